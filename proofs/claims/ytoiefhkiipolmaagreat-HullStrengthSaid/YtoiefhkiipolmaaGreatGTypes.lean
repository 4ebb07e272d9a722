/- Go's types as Lean types. Printed by a program. No condition. -/
import Derived.Test.YtoiefhkiipolmaaGreatKZf
namespace Go.KB
abbrev r_i8 : Rep Int := Rep.int .i8
abbrev r_i16 : Rep Int := Rep.int .i16
abbrev r_i32 : Rep Int := Rep.int .i32
abbrev r_i64 : Rep Int := Rep.int .i64
abbrev jM3 : Rep Int := Rep.int .u8
abbrev jJb : Rep Int := Rep.int .u16
abbrev jQa : Rep Int := Rep.int .u32
abbrev jXp : Rep Int := Rep.int .u64
structure jJu where
  X : Int
  Width : Int
  Levels : (List Int)
  Halves : (List Int)
def jJu.rep : Rep jJu := Rep.iso (Rep.prod r_i64 (Rep.prod r_i64 (Rep.prod (Rep.slice r_i64) (Rep.prod (Rep.slice r_i64) Rep.unit)))) (fun s => (s.X, (s.Width, (s.Levels, (s.Halves, ()))))) (fun t => ⟨t.1, t.2.1, t.2.2.1, t.2.2.2.1⟩) (fun _ => rfl)
def jJu.ok (y : jJu) : Prop := (gI .i64) y.X ∧ (gI .i64) y.Width ∧ (gL (gI .i64)) y.Levels ∧ (gL (gI .i64)) y.Halves ∧ True
theorem jJu.l0 : Lens jJu.rep r_i64 0 (fun x => x.X) (fun x y => { x with X := y }) := (Lens.iso _ _ _ _).comp (Lens.fst _ _)
theorem jJu.l1 : Lens jJu.rep r_i64 1 (fun x => x.Width) (fun x y => { x with Width := y }) := (Lens.iso _ _ _ _).comp ((Lens.snd _ _).comp (Lens.fst _ _))
theorem jJu.l2 : Lens jJu.rep (Rep.slice r_i64) 2 (fun x => x.Levels) (fun x y => { x with Levels := y }) := (Lens.iso _ _ _ _).comp ((Lens.snd _ _).comp ((Lens.snd _ _).comp (Lens.fst _ _)))
theorem jJu.l3 : Lens jJu.rep (Rep.slice r_i64) 3 (fun x => x.Halves) (fun x y => { x with Halves := y }) := (Lens.iso _ _ _ _).comp ((Lens.snd _ _).comp ((Lens.snd _ _).comp ((Lens.snd _ _).comp (Lens.fst _ _))))
structure jQ2 where
  Name : Str
  Mass : Int
  X : Int
  Z : Int
  Free : Int
def jQ2.rep : Rep jQ2 := Rep.iso (Rep.prod Rep.str (Rep.prod r_i64 (Rep.prod r_i64 (Rep.prod r_i64 (Rep.prod r_i64 Rep.unit))))) (fun s => (s.Name, (s.Mass, (s.X, (s.Z, (s.Free, ())))))) (fun t => ⟨t.1, t.2.1, t.2.2.1, t.2.2.2.1, t.2.2.2.2.1⟩) (fun _ => rfl)
def jQ2.ok (y : jQ2) : Prop := gS y.Name ∧ (gI .i64) y.Mass ∧ (gI .i64) y.X ∧ (gI .i64) y.Z ∧ (gI .i64) y.Free ∧ True
theorem jQ2.l0 : Lens jQ2.rep Rep.str 0 (fun x => x.Name) (fun x y => { x with Name := y }) := (Lens.iso _ _ _ _).comp (Lens.fst _ _)
theorem jQ2.l1 : Lens jQ2.rep r_i64 1 (fun x => x.Mass) (fun x y => { x with Mass := y }) := (Lens.iso _ _ _ _).comp ((Lens.snd _ _).comp (Lens.fst _ _))
theorem jQ2.l2 : Lens jQ2.rep r_i64 2 (fun x => x.X) (fun x y => { x with X := y }) := (Lens.iso _ _ _ _).comp ((Lens.snd _ _).comp ((Lens.snd _ _).comp (Lens.fst _ _)))
theorem jQ2.l3 : Lens jQ2.rep r_i64 3 (fun x => x.Z) (fun x y => { x with Z := y }) := (Lens.iso _ _ _ _).comp ((Lens.snd _ _).comp ((Lens.snd _ _).comp ((Lens.snd _ _).comp (Lens.fst _ _))))
theorem jQ2.l4 : Lens jQ2.rep r_i64 4 (fun x => x.Free) (fun x y => { x with Free := y }) := (Lens.iso _ _ _ _).comp ((Lens.snd _ _).comp ((Lens.snd _ _).comp ((Lens.snd _ _).comp ((Lens.snd _ _).comp (Lens.fst _ _)))))
structure GShip where
  Name : Str
  Length : Int
  Stations : (List jJu)
  Light : jQ2
  Items : (List jQ2)
def GShip.rep : Rep GShip := Rep.iso (Rep.prod Rep.str (Rep.prod r_i64 (Rep.prod (Rep.slice jJu.rep) (Rep.prod jQ2.rep (Rep.prod (Rep.slice jQ2.rep) Rep.unit))))) (fun s => (s.Name, (s.Length, (s.Stations, (s.Light, (s.Items, ())))))) (fun t => ⟨t.1, t.2.1, t.2.2.1, t.2.2.2.1, t.2.2.2.2.1⟩) (fun _ => rfl)
def GShip.ok (y : GShip) : Prop := gS y.Name ∧ (gI .i64) y.Length ∧ (gL jJu.ok) y.Stations ∧ jQ2.ok y.Light ∧ (gL jQ2.ok) y.Items ∧ True
theorem GShip.l0 : Lens GShip.rep Rep.str 0 (fun x => x.Name) (fun x y => { x with Name := y }) := (Lens.iso _ _ _ _).comp (Lens.fst _ _)
theorem GShip.l1 : Lens GShip.rep r_i64 1 (fun x => x.Length) (fun x y => { x with Length := y }) := (Lens.iso _ _ _ _).comp ((Lens.snd _ _).comp (Lens.fst _ _))
theorem GShip.l2 : Lens GShip.rep (Rep.slice jJu.rep) 2 (fun x => x.Stations) (fun x y => { x with Stations := y }) := (Lens.iso _ _ _ _).comp ((Lens.snd _ _).comp ((Lens.snd _ _).comp (Lens.fst _ _)))
theorem GShip.l3 : Lens GShip.rep jQ2.rep 3 (fun x => x.Light) (fun x y => { x with Light := y }) := (Lens.iso _ _ _ _).comp ((Lens.snd _ _).comp ((Lens.snd _ _).comp ((Lens.snd _ _).comp (Lens.fst _ _))))
theorem GShip.l4 : Lens GShip.rep (Rep.slice jQ2.rep) 8 (fun x => x.Items) (fun x y => { x with Items := y }) := (Lens.iso _ _ _ _).comp ((Lens.snd _ _).comp ((Lens.snd _ _).comp ((Lens.snd _ _).comp ((Lens.snd _ _).comp (Lens.fst _ _)))))
structure jQn where
  Neg : Bool
  Limbs : (List Int)
def jQn.rep : Rep jQn := Rep.iso (Rep.prod Rep.bool (Rep.prod (Rep.slice jJb) Rep.unit)) (fun s => (s.Neg, (s.Limbs, ()))) (fun t => ⟨t.1, t.2.1⟩) (fun _ => rfl)
def jQn.ok (y : jQn) : Prop := (fun _ => True) y.Neg ∧ (gL (gI .u16)) y.Limbs ∧ True
theorem jQn.l0 : Lens jQn.rep Rep.bool 0 (fun x => x.Neg) (fun x y => { x with Neg := y }) := (Lens.iso _ _ _ _).comp (Lens.fst _ _)
theorem jQn.l1 : Lens jQn.rep (Rep.slice jJb) 1 (fun x => x.Limbs) (fun x y => { x with Limbs := y }) := (Lens.iso _ _ _ _).comp ((Lens.snd _ _).comp (Lens.fst _ _))
structure jQv where
  Num : jQn
  Den : jQn
def jQv.rep : Rep jQv := Rep.iso (Rep.prod jQn.rep (Rep.prod jQn.rep Rep.unit)) (fun s => (s.Num, (s.Den, ()))) (fun t => ⟨t.1, t.2.1⟩) (fun _ => rfl)
def jQv.ok (y : jQv) : Prop := jQn.ok y.Num ∧ jQn.ok y.Den ∧ True
theorem jQv.l0 : Lens jQv.rep jQn.rep 0 (fun x => x.Num) (fun x y => { x with Num := y }) := (Lens.iso _ _ _ _).comp (Lens.fst _ _)
theorem jQv.l1 : Lens jQv.rep jQn.rep 2 (fun x => x.Den) (fun x y => { x with Den := y }) := (Lens.iso _ _ _ _).comp ((Lens.snd _ _).comp (Lens.fst _ _))
structure GAttitude where
  Sink : jQv
  Slope : jQv
def GAttitude.rep : Rep GAttitude := Rep.iso (Rep.prod jQv.rep (Rep.prod jQv.rep Rep.unit)) (fun s => (s.Sink, (s.Slope, ()))) (fun t => ⟨t.1, t.2.1⟩) (fun _ => rfl)
def GAttitude.ok (y : GAttitude) : Prop := jQv.ok y.Sink ∧ jQv.ok y.Slope ∧ True
theorem GAttitude.l0 : Lens GAttitude.rep jQv.rep 0 (fun x => x.Sink) (fun x y => { x with Sink := y }) := (Lens.iso _ _ _ _).comp (Lens.fst _ _)
theorem GAttitude.l1 : Lens GAttitude.rep jQv.rep 4 (fun x => x.Slope) (fun x y => { x with Slope := y }) := (Lens.iso _ _ _ _).comp ((Lens.snd _ _).comp (Lens.fst _ _))
structure jJv where
  Volume : jQv
  Displacement : jQv
  X : jQv
  Z : jQv
  Area : jQv
  Float : jQv
  Cross : jQv
  Long : jQv
  Meta : jQv
def jJv.rep : Rep jJv := Rep.iso (Rep.prod jQv.rep (Rep.prod jQv.rep (Rep.prod jQv.rep (Rep.prod jQv.rep (Rep.prod jQv.rep (Rep.prod jQv.rep (Rep.prod jQv.rep (Rep.prod jQv.rep (Rep.prod jQv.rep Rep.unit))))))))) (fun s => (s.Volume, (s.Displacement, (s.X, (s.Z, (s.Area, (s.Float, (s.Cross, (s.Long, (s.Meta, ())))))))))) (fun t => ⟨t.1, t.2.1, t.2.2.1, t.2.2.2.1, t.2.2.2.2.1, t.2.2.2.2.2.1, t.2.2.2.2.2.2.1, t.2.2.2.2.2.2.2.1, t.2.2.2.2.2.2.2.2.1⟩) (fun _ => rfl)
def jJv.ok (y : jJv) : Prop := jQv.ok y.Volume ∧ jQv.ok y.Displacement ∧ jQv.ok y.X ∧ jQv.ok y.Z ∧ jQv.ok y.Area ∧ jQv.ok y.Float ∧ jQv.ok y.Cross ∧ jQv.ok y.Long ∧ jQv.ok y.Meta ∧ True
theorem jJv.l0 : Lens jJv.rep jQv.rep 0 (fun x => x.Volume) (fun x y => { x with Volume := y }) := (Lens.iso _ _ _ _).comp (Lens.fst _ _)
theorem jJv.l1 : Lens jJv.rep jQv.rep 4 (fun x => x.Displacement) (fun x y => { x with Displacement := y }) := (Lens.iso _ _ _ _).comp ((Lens.snd _ _).comp (Lens.fst _ _))
theorem jJv.l2 : Lens jJv.rep jQv.rep 8 (fun x => x.X) (fun x y => { x with X := y }) := (Lens.iso _ _ _ _).comp ((Lens.snd _ _).comp ((Lens.snd _ _).comp (Lens.fst _ _)))
theorem jJv.l3 : Lens jJv.rep jQv.rep 12 (fun x => x.Z) (fun x y => { x with Z := y }) := (Lens.iso _ _ _ _).comp ((Lens.snd _ _).comp ((Lens.snd _ _).comp ((Lens.snd _ _).comp (Lens.fst _ _))))
theorem jJv.l4 : Lens jJv.rep jQv.rep 16 (fun x => x.Area) (fun x y => { x with Area := y }) := (Lens.iso _ _ _ _).comp ((Lens.snd _ _).comp ((Lens.snd _ _).comp ((Lens.snd _ _).comp ((Lens.snd _ _).comp (Lens.fst _ _)))))
theorem jJv.l5 : Lens jJv.rep jQv.rep 20 (fun x => x.Float) (fun x y => { x with Float := y }) := (Lens.iso _ _ _ _).comp ((Lens.snd _ _).comp ((Lens.snd _ _).comp ((Lens.snd _ _).comp ((Lens.snd _ _).comp ((Lens.snd _ _).comp (Lens.fst _ _))))))
theorem jJv.l6 : Lens jJv.rep jQv.rep 24 (fun x => x.Cross) (fun x y => { x with Cross := y }) := (Lens.iso _ _ _ _).comp ((Lens.snd _ _).comp ((Lens.snd _ _).comp ((Lens.snd _ _).comp ((Lens.snd _ _).comp ((Lens.snd _ _).comp ((Lens.snd _ _).comp (Lens.fst _ _)))))))
theorem jJv.l7 : Lens jJv.rep jQv.rep 28 (fun x => x.Long) (fun x y => { x with Long := y }) := (Lens.iso _ _ _ _).comp ((Lens.snd _ _).comp ((Lens.snd _ _).comp ((Lens.snd _ _).comp ((Lens.snd _ _).comp ((Lens.snd _ _).comp ((Lens.snd _ _).comp ((Lens.snd _ _).comp (Lens.fst _ _))))))))
theorem jJv.l8 : Lens jJv.rep jQv.rep 32 (fun x => x.Meta) (fun x y => { x with Meta := y }) := (Lens.iso _ _ _ _).comp ((Lens.snd _ _).comp ((Lens.snd _ _).comp ((Lens.snd _ _).comp ((Lens.snd _ _).comp ((Lens.snd _ _).comp ((Lens.snd _ _).comp ((Lens.snd _ _).comp ((Lens.snd _ _).comp (Lens.fst _ _)))))))))
structure jJp where
  area : jQv
  moment : jQv
def jJp.rep : Rep jJp := Rep.iso (Rep.prod jQv.rep (Rep.prod jQv.rep Rep.unit)) (fun s => (s.area, (s.moment, ()))) (fun t => ⟨t.1, t.2.1⟩) (fun _ => rfl)
def jJp.ok (y : jJp) : Prop := jQv.ok y.area ∧ jQv.ok y.moment ∧ True
theorem jJp.l0 : Lens jJp.rep jQv.rep 0 (fun x => x.area) (fun x y => { x with area := y }) := (Lens.iso _ _ _ _).comp (Lens.fst _ _)
theorem jJp.l1 : Lens jJp.rep jQv.rep 4 (fun x => x.moment) (fun x y => { x with moment := y }) := (Lens.iso _ _ _ _).comp ((Lens.snd _ _).comp (Lens.fst _ _))
structure jUz where
  Density : Int
  Upthrust : jQv
def jUz.rep : Rep jUz := Rep.iso (Rep.prod r_i64 (Rep.prod jQv.rep Rep.unit)) (fun s => (s.Density, (s.Upthrust, ()))) (fun t => ⟨t.1, t.2.1⟩) (fun _ => rfl)
def jUz.ok (y : jUz) : Prop := (gI .i64) y.Density ∧ jQv.ok y.Upthrust ∧ True
theorem jUz.l0 : Lens jUz.rep r_i64 0 (fun x => x.Density) (fun x y => { x with Density := y }) := (Lens.iso _ _ _ _).comp (Lens.fst _ _)
theorem jUz.l1 : Lens jUz.rep jQv.rep 1 (fun x => x.Upthrust) (fun x y => { x with Upthrust := y }) := (Lens.iso _ _ _ _).comp ((Lens.snd _ _).comp (Lens.fst _ _))
structure jXc where
  KM : jQv
  KG : jQv
  GM : jQv
  Other : jQv
def jXc.rep : Rep jXc := Rep.iso (Rep.prod jQv.rep (Rep.prod jQv.rep (Rep.prod jQv.rep (Rep.prod jQv.rep Rep.unit)))) (fun s => (s.KM, (s.KG, (s.GM, (s.Other, ()))))) (fun t => ⟨t.1, t.2.1, t.2.2.1, t.2.2.2.1⟩) (fun _ => rfl)
def jXc.ok (y : jXc) : Prop := jQv.ok y.KM ∧ jQv.ok y.KG ∧ jQv.ok y.GM ∧ jQv.ok y.Other ∧ True
theorem jXc.l0 : Lens jXc.rep jQv.rep 0 (fun x => x.KM) (fun x y => { x with KM := y }) := (Lens.iso _ _ _ _).comp (Lens.fst _ _)
theorem jXc.l1 : Lens jXc.rep jQv.rep 4 (fun x => x.KG) (fun x y => { x with KG := y }) := (Lens.iso _ _ _ _).comp ((Lens.snd _ _).comp (Lens.fst _ _))
theorem jXc.l2 : Lens jXc.rep jQv.rep 8 (fun x => x.GM) (fun x y => { x with GM := y }) := (Lens.iso _ _ _ _).comp ((Lens.snd _ _).comp ((Lens.snd _ _).comp (Lens.fst _ _)))
theorem jXc.l3 : Lens jXc.rep jQv.rep 12 (fun x => x.Other) (fun x y => { x with Other := y }) := (Lens.iso _ _ _ _).comp ((Lens.snd _ _).comp ((Lens.snd _ _).comp ((Lens.snd _ _).comp (Lens.fst _ _))))
structure jJt where
  Mass : Int
  X : jQv
  Z : jQv
  Free : Int
def jJt.rep : Rep jJt := Rep.iso (Rep.prod r_i64 (Rep.prod jQv.rep (Rep.prod jQv.rep (Rep.prod r_i64 Rep.unit)))) (fun s => (s.Mass, (s.X, (s.Z, (s.Free, ()))))) (fun t => ⟨t.1, t.2.1, t.2.2.1, t.2.2.2.1⟩) (fun _ => rfl)
def jJt.ok (y : jJt) : Prop := (gI .i64) y.Mass ∧ jQv.ok y.X ∧ jQv.ok y.Z ∧ (gI .i64) y.Free ∧ True
theorem jJt.l0 : Lens jJt.rep r_i64 0 (fun x => x.Mass) (fun x y => { x with Mass := y }) := (Lens.iso _ _ _ _).comp (Lens.fst _ _)
theorem jJt.l1 : Lens jJt.rep jQv.rep 1 (fun x => x.X) (fun x y => { x with X := y }) := (Lens.iso _ _ _ _).comp ((Lens.snd _ _).comp (Lens.fst _ _))
theorem jJt.l2 : Lens jJt.rep jQv.rep 5 (fun x => x.Z) (fun x y => { x with Z := y }) := (Lens.iso _ _ _ _).comp ((Lens.snd _ _).comp ((Lens.snd _ _).comp (Lens.fst _ _)))
theorem jJt.l3 : Lens jJt.rep r_i64 9 (fun x => x.Free) (fun x y => { x with Free := y }) := (Lens.iso _ _ _ _).comp ((Lens.snd _ _).comp ((Lens.snd _ _).comp ((Lens.snd _ _).comp (Lens.fst _ _))))
structure jXy where
  X : Int
  Shear : jQv
  Moment : jQv
def jXy.rep : Rep jXy := Rep.iso (Rep.prod r_i64 (Rep.prod jQv.rep (Rep.prod jQv.rep Rep.unit))) (fun s => (s.X, (s.Shear, (s.Moment, ())))) (fun t => ⟨t.1, t.2.1, t.2.2.1⟩) (fun _ => rfl)
def jXy.ok (y : jXy) : Prop := (gI .i64) y.X ∧ jQv.ok y.Shear ∧ jQv.ok y.Moment ∧ True
theorem jXy.l0 : Lens jXy.rep r_i64 0 (fun x => x.X) (fun x y => { x with X := y }) := (Lens.iso _ _ _ _).comp (Lens.fst _ _)
theorem jXy.l1 : Lens jXy.rep jQv.rep 1 (fun x => x.Shear) (fun x y => { x with Shear := y }) := (Lens.iso _ _ _ _).comp ((Lens.snd _ _).comp (Lens.fst _ _))
theorem jXy.l2 : Lens jXy.rep jQv.rep 5 (fun x => x.Moment) (fun x y => { x with Moment := y }) := (Lens.iso _ _ _ _).comp ((Lens.snd _ _).comp ((Lens.snd _ _).comp (Lens.fst _ _)))
abbrev zZ : jQn := (⟨false, []⟩ : jQn)
abbrev zQ : jQv := (⟨(⟨false, []⟩ : jQn), (⟨false, []⟩ : jQn)⟩ : jQv)
abbrev jJx := jJu.rep
abbrev jJe := jQ2.rep
abbrev jJ6 := GShip.rep
abbrev jQm := jQn.rep
abbrev jJz := jQv.rep
abbrev jJd := GAttitude.rep
abbrev jQf := jJv.rep
abbrev jJ9 := jJp.rep
abbrev jLh := jUz.rep
abbrev jVs := jXc.rep
abbrev jQs := jJt.rep
abbrev jJ3 := jXy.rep
end Go.KB
