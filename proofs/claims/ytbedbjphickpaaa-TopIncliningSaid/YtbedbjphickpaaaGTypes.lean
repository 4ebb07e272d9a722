/- Go's types as Lean types. Printed by a program. No condition. -/
import Derived.Test.YtbedbjphickpaaaKZd
namespace Go.KB
abbrev r_i8 : Rep Int := Rep.int .i8
abbrev r_i16 : Rep Int := Rep.int .i16
abbrev r_i32 : Rep Int := Rep.int .i32
abbrev r_i64 : Rep Int := Rep.int .i64
abbrev r_u8 : Rep Int := Rep.int .u8
abbrev r_u16 : Rep Int := Rep.int .u16
abbrev r_u32 : Rep Int := Rep.int .u32
abbrev r_u64 : Rep Int := Rep.int .u64
structure GStation where
  X : Int
  Width : Int
  Levels : (List Int)
  Halves : (List Int)
def GStation.rep : Rep GStation := Rep.iso (Rep.prod r_i64 (Rep.prod r_i64 (Rep.prod (Rep.slice r_i64) (Rep.prod (Rep.slice r_i64) Rep.unit)))) (fun s => (s.X, (s.Width, (s.Levels, (s.Halves, ()))))) (fun t => ⟨t.1, t.2.1, t.2.2.1, t.2.2.2.1⟩) (fun _ => rfl)
def GStation.ok (y : GStation) : Prop := (gI .i64) y.X ∧ (gI .i64) y.Width ∧ (gL (gI .i64)) y.Levels ∧ (gL (gI .i64)) y.Halves ∧ True
theorem GStation.l0 : Lens GStation.rep r_i64 0 (fun x => x.X) (fun x y => { x with X := y }) := (Lens.iso _ _ _ _).comp (Lens.fst _ _)
theorem GStation.l1 : Lens GStation.rep r_i64 1 (fun x => x.Width) (fun x y => { x with Width := y }) := (Lens.iso _ _ _ _).comp ((Lens.snd _ _).comp (Lens.fst _ _))
theorem GStation.l2 : Lens GStation.rep (Rep.slice r_i64) 2 (fun x => x.Levels) (fun x y => { x with Levels := y }) := (Lens.iso _ _ _ _).comp ((Lens.snd _ _).comp ((Lens.snd _ _).comp (Lens.fst _ _)))
theorem GStation.l3 : Lens GStation.rep (Rep.slice r_i64) 3 (fun x => x.Halves) (fun x y => { x with Halves := y }) := (Lens.iso _ _ _ _).comp ((Lens.snd _ _).comp ((Lens.snd _ _).comp ((Lens.snd _ _).comp (Lens.fst _ _))))
structure GLoad where
  Name : Str
  Mass : Int
  X : Int
  Z : Int
  Free : Int
def GLoad.rep : Rep GLoad := Rep.iso (Rep.prod Rep.str (Rep.prod r_i64 (Rep.prod r_i64 (Rep.prod r_i64 (Rep.prod r_i64 Rep.unit))))) (fun s => (s.Name, (s.Mass, (s.X, (s.Z, (s.Free, ())))))) (fun t => ⟨t.1, t.2.1, t.2.2.1, t.2.2.2.1, t.2.2.2.2.1⟩) (fun _ => rfl)
def GLoad.ok (y : GLoad) : Prop := gS y.Name ∧ (gI .i64) y.Mass ∧ (gI .i64) y.X ∧ (gI .i64) y.Z ∧ (gI .i64) y.Free ∧ True
theorem GLoad.l0 : Lens GLoad.rep Rep.str 0 (fun x => x.Name) (fun x y => { x with Name := y }) := (Lens.iso _ _ _ _).comp (Lens.fst _ _)
theorem GLoad.l1 : Lens GLoad.rep r_i64 1 (fun x => x.Mass) (fun x y => { x with Mass := y }) := (Lens.iso _ _ _ _).comp ((Lens.snd _ _).comp (Lens.fst _ _))
theorem GLoad.l2 : Lens GLoad.rep r_i64 2 (fun x => x.X) (fun x y => { x with X := y }) := (Lens.iso _ _ _ _).comp ((Lens.snd _ _).comp ((Lens.snd _ _).comp (Lens.fst _ _)))
theorem GLoad.l3 : Lens GLoad.rep r_i64 3 (fun x => x.Z) (fun x y => { x with Z := y }) := (Lens.iso _ _ _ _).comp ((Lens.snd _ _).comp ((Lens.snd _ _).comp ((Lens.snd _ _).comp (Lens.fst _ _))))
theorem GLoad.l4 : Lens GLoad.rep r_i64 4 (fun x => x.Free) (fun x y => { x with Free := y }) := (Lens.iso _ _ _ _).comp ((Lens.snd _ _).comp ((Lens.snd _ _).comp ((Lens.snd _ _).comp ((Lens.snd _ _).comp (Lens.fst _ _)))))
structure GShip where
  Name : Str
  Length : Int
  Stations : (List GStation)
  Light : GLoad
  Items : (List GLoad)
def GShip.rep : Rep GShip := Rep.iso (Rep.prod Rep.str (Rep.prod r_i64 (Rep.prod (Rep.slice GStation.rep) (Rep.prod GLoad.rep (Rep.prod (Rep.slice GLoad.rep) Rep.unit))))) (fun s => (s.Name, (s.Length, (s.Stations, (s.Light, (s.Items, ())))))) (fun t => ⟨t.1, t.2.1, t.2.2.1, t.2.2.2.1, t.2.2.2.2.1⟩) (fun _ => rfl)
def GShip.ok (y : GShip) : Prop := gS y.Name ∧ (gI .i64) y.Length ∧ (gL GStation.ok) y.Stations ∧ GLoad.ok y.Light ∧ (gL GLoad.ok) y.Items ∧ True
theorem GShip.l0 : Lens GShip.rep Rep.str 0 (fun x => x.Name) (fun x y => { x with Name := y }) := (Lens.iso _ _ _ _).comp (Lens.fst _ _)
theorem GShip.l1 : Lens GShip.rep r_i64 1 (fun x => x.Length) (fun x y => { x with Length := y }) := (Lens.iso _ _ _ _).comp ((Lens.snd _ _).comp (Lens.fst _ _))
theorem GShip.l2 : Lens GShip.rep (Rep.slice GStation.rep) 2 (fun x => x.Stations) (fun x y => { x with Stations := y }) := (Lens.iso _ _ _ _).comp ((Lens.snd _ _).comp ((Lens.snd _ _).comp (Lens.fst _ _)))
theorem GShip.l3 : Lens GShip.rep GLoad.rep 3 (fun x => x.Light) (fun x y => { x with Light := y }) := (Lens.iso _ _ _ _).comp ((Lens.snd _ _).comp ((Lens.snd _ _).comp ((Lens.snd _ _).comp (Lens.fst _ _))))
theorem GShip.l4 : Lens GShip.rep (Rep.slice GLoad.rep) 8 (fun x => x.Items) (fun x y => { x with Items := y }) := (Lens.iso _ _ _ _).comp ((Lens.snd _ _).comp ((Lens.snd _ _).comp ((Lens.snd _ _).comp ((Lens.snd _ _).comp (Lens.fst _ _)))))
structure GInt where
  Neg : Bool
  Limbs : (List Int)
def GInt.rep : Rep GInt := Rep.iso (Rep.prod Rep.bool (Rep.prod (Rep.slice r_u16) Rep.unit)) (fun s => (s.Neg, (s.Limbs, ()))) (fun t => ⟨t.1, t.2.1⟩) (fun _ => rfl)
def GInt.ok (y : GInt) : Prop := (fun _ => True) y.Neg ∧ (gL (gI .u16)) y.Limbs ∧ True
theorem GInt.l0 : Lens GInt.rep Rep.bool 0 (fun x => x.Neg) (fun x y => { x with Neg := y }) := (Lens.iso _ _ _ _).comp (Lens.fst _ _)
theorem GInt.l1 : Lens GInt.rep (Rep.slice r_u16) 1 (fun x => x.Limbs) (fun x y => { x with Limbs := y }) := (Lens.iso _ _ _ _).comp ((Lens.snd _ _).comp (Lens.fst _ _))
structure GRat where
  Num : GInt
  Den : GInt
def GRat.rep : Rep GRat := Rep.iso (Rep.prod GInt.rep (Rep.prod GInt.rep Rep.unit)) (fun s => (s.Num, (s.Den, ()))) (fun t => ⟨t.1, t.2.1⟩) (fun _ => rfl)
def GRat.ok (y : GRat) : Prop := GInt.ok y.Num ∧ GInt.ok y.Den ∧ True
theorem GRat.l0 : Lens GRat.rep GInt.rep 0 (fun x => x.Num) (fun x y => { x with Num := y }) := (Lens.iso _ _ _ _).comp (Lens.fst _ _)
theorem GRat.l1 : Lens GRat.rep GInt.rep 2 (fun x => x.Den) (fun x y => { x with Den := y }) := (Lens.iso _ _ _ _).comp ((Lens.snd _ _).comp (Lens.fst _ _))
structure GAttitude where
  Sink : GRat
  Slope : GRat
def GAttitude.rep : Rep GAttitude := Rep.iso (Rep.prod GRat.rep (Rep.prod GRat.rep Rep.unit)) (fun s => (s.Sink, (s.Slope, ()))) (fun t => ⟨t.1, t.2.1⟩) (fun _ => rfl)
def GAttitude.ok (y : GAttitude) : Prop := GRat.ok y.Sink ∧ GRat.ok y.Slope ∧ True
theorem GAttitude.l0 : Lens GAttitude.rep GRat.rep 0 (fun x => x.Sink) (fun x y => { x with Sink := y }) := (Lens.iso _ _ _ _).comp (Lens.fst _ _)
theorem GAttitude.l1 : Lens GAttitude.rep GRat.rep 4 (fun x => x.Slope) (fun x y => { x with Slope := y }) := (Lens.iso _ _ _ _).comp ((Lens.snd _ _).comp (Lens.fst _ _))
structure GRaised where
  Density : Int
  Upthrust : GRat
def GRaised.rep : Rep GRaised := Rep.iso (Rep.prod r_i64 (Rep.prod GRat.rep Rep.unit)) (fun s => (s.Density, (s.Upthrust, ()))) (fun t => ⟨t.1, t.2.1⟩) (fun _ => rfl)
def GRaised.ok (y : GRaised) : Prop := (gI .i64) y.Density ∧ GRat.ok y.Upthrust ∧ True
theorem GRaised.l0 : Lens GRaised.rep r_i64 0 (fun x => x.Density) (fun x y => { x with Density := y }) := (Lens.iso _ _ _ _).comp (Lens.fst _ _)
theorem GRaised.l1 : Lens GRaised.rep GRat.rep 1 (fun x => x.Upthrust) (fun x y => { x with Upthrust := y }) := (Lens.iso _ _ _ _).comp ((Lens.snd _ _).comp (Lens.fst _ _))
structure GStable where
  KM : GRat
  KG : GRat
  GM : GRat
  Other : GRat
def GStable.rep : Rep GStable := Rep.iso (Rep.prod GRat.rep (Rep.prod GRat.rep (Rep.prod GRat.rep (Rep.prod GRat.rep Rep.unit)))) (fun s => (s.KM, (s.KG, (s.GM, (s.Other, ()))))) (fun t => ⟨t.1, t.2.1, t.2.2.1, t.2.2.2.1⟩) (fun _ => rfl)
def GStable.ok (y : GStable) : Prop := GRat.ok y.KM ∧ GRat.ok y.KG ∧ GRat.ok y.GM ∧ GRat.ok y.Other ∧ True
theorem GStable.l0 : Lens GStable.rep GRat.rep 0 (fun x => x.KM) (fun x y => { x with KM := y }) := (Lens.iso _ _ _ _).comp (Lens.fst _ _)
theorem GStable.l1 : Lens GStable.rep GRat.rep 4 (fun x => x.KG) (fun x y => { x with KG := y }) := (Lens.iso _ _ _ _).comp ((Lens.snd _ _).comp (Lens.fst _ _))
theorem GStable.l2 : Lens GStable.rep GRat.rep 8 (fun x => x.GM) (fun x y => { x with GM := y }) := (Lens.iso _ _ _ _).comp ((Lens.snd _ _).comp ((Lens.snd _ _).comp (Lens.fst _ _)))
theorem GStable.l3 : Lens GStable.rep GRat.rep 12 (fun x => x.Other) (fun x y => { x with Other := y }) := (Lens.iso _ _ _ _).comp ((Lens.snd _ _).comp ((Lens.snd _ _).comp ((Lens.snd _ _).comp (Lens.fst _ _))))
structure GHydro where
  Volume : GRat
  Displacement : GRat
  X : GRat
  Z : GRat
  Area : GRat
  Float : GRat
  Cross : GRat
  Long : GRat
  Meta : GRat
def GHydro.rep : Rep GHydro := Rep.iso (Rep.prod GRat.rep (Rep.prod GRat.rep (Rep.prod GRat.rep (Rep.prod GRat.rep (Rep.prod GRat.rep (Rep.prod GRat.rep (Rep.prod GRat.rep (Rep.prod GRat.rep (Rep.prod GRat.rep Rep.unit))))))))) (fun s => (s.Volume, (s.Displacement, (s.X, (s.Z, (s.Area, (s.Float, (s.Cross, (s.Long, (s.Meta, ())))))))))) (fun t => ⟨t.1, t.2.1, t.2.2.1, t.2.2.2.1, t.2.2.2.2.1, t.2.2.2.2.2.1, t.2.2.2.2.2.2.1, t.2.2.2.2.2.2.2.1, t.2.2.2.2.2.2.2.2.1⟩) (fun _ => rfl)
def GHydro.ok (y : GHydro) : Prop := GRat.ok y.Volume ∧ GRat.ok y.Displacement ∧ GRat.ok y.X ∧ GRat.ok y.Z ∧ GRat.ok y.Area ∧ GRat.ok y.Float ∧ GRat.ok y.Cross ∧ GRat.ok y.Long ∧ GRat.ok y.Meta ∧ True
theorem GHydro.l0 : Lens GHydro.rep GRat.rep 0 (fun x => x.Volume) (fun x y => { x with Volume := y }) := (Lens.iso _ _ _ _).comp (Lens.fst _ _)
theorem GHydro.l1 : Lens GHydro.rep GRat.rep 4 (fun x => x.Displacement) (fun x y => { x with Displacement := y }) := (Lens.iso _ _ _ _).comp ((Lens.snd _ _).comp (Lens.fst _ _))
theorem GHydro.l2 : Lens GHydro.rep GRat.rep 8 (fun x => x.X) (fun x y => { x with X := y }) := (Lens.iso _ _ _ _).comp ((Lens.snd _ _).comp ((Lens.snd _ _).comp (Lens.fst _ _)))
theorem GHydro.l3 : Lens GHydro.rep GRat.rep 12 (fun x => x.Z) (fun x y => { x with Z := y }) := (Lens.iso _ _ _ _).comp ((Lens.snd _ _).comp ((Lens.snd _ _).comp ((Lens.snd _ _).comp (Lens.fst _ _))))
theorem GHydro.l4 : Lens GHydro.rep GRat.rep 16 (fun x => x.Area) (fun x y => { x with Area := y }) := (Lens.iso _ _ _ _).comp ((Lens.snd _ _).comp ((Lens.snd _ _).comp ((Lens.snd _ _).comp ((Lens.snd _ _).comp (Lens.fst _ _)))))
theorem GHydro.l5 : Lens GHydro.rep GRat.rep 20 (fun x => x.Float) (fun x y => { x with Float := y }) := (Lens.iso _ _ _ _).comp ((Lens.snd _ _).comp ((Lens.snd _ _).comp ((Lens.snd _ _).comp ((Lens.snd _ _).comp ((Lens.snd _ _).comp (Lens.fst _ _))))))
theorem GHydro.l6 : Lens GHydro.rep GRat.rep 24 (fun x => x.Cross) (fun x y => { x with Cross := y }) := (Lens.iso _ _ _ _).comp ((Lens.snd _ _).comp ((Lens.snd _ _).comp ((Lens.snd _ _).comp ((Lens.snd _ _).comp ((Lens.snd _ _).comp ((Lens.snd _ _).comp (Lens.fst _ _)))))))
theorem GHydro.l7 : Lens GHydro.rep GRat.rep 28 (fun x => x.Long) (fun x y => { x with Long := y }) := (Lens.iso _ _ _ _).comp ((Lens.snd _ _).comp ((Lens.snd _ _).comp ((Lens.snd _ _).comp ((Lens.snd _ _).comp ((Lens.snd _ _).comp ((Lens.snd _ _).comp ((Lens.snd _ _).comp (Lens.fst _ _))))))))
theorem GHydro.l8 : Lens GHydro.rep GRat.rep 32 (fun x => x.Meta) (fun x y => { x with Meta := y }) := (Lens.iso _ _ _ _).comp ((Lens.snd _ _).comp ((Lens.snd _ _).comp ((Lens.snd _ _).comp ((Lens.snd _ _).comp ((Lens.snd _ _).comp ((Lens.snd _ _).comp ((Lens.snd _ _).comp ((Lens.snd _ _).comp (Lens.fst _ _)))))))))
structure Ghull_section where
  area : GRat
  moment : GRat
def Ghull_section.rep : Rep Ghull_section := Rep.iso (Rep.prod GRat.rep (Rep.prod GRat.rep Rep.unit)) (fun s => (s.area, (s.moment, ()))) (fun t => ⟨t.1, t.2.1⟩) (fun _ => rfl)
def Ghull_section.ok (y : Ghull_section) : Prop := GRat.ok y.area ∧ GRat.ok y.moment ∧ True
theorem Ghull_section.l0 : Lens Ghull_section.rep GRat.rep 0 (fun x => x.area) (fun x y => { x with area := y }) := (Lens.iso _ _ _ _).comp (Lens.fst _ _)
theorem Ghull_section.l1 : Lens Ghull_section.rep GRat.rep 4 (fun x => x.moment) (fun x y => { x with moment := y }) := (Lens.iso _ _ _ _).comp ((Lens.snd _ _).comp (Lens.fst _ _))
structure GCentre where
  Mass : Int
  X : GRat
  Z : GRat
  Free : Int
def GCentre.rep : Rep GCentre := Rep.iso (Rep.prod r_i64 (Rep.prod GRat.rep (Rep.prod GRat.rep (Rep.prod r_i64 Rep.unit)))) (fun s => (s.Mass, (s.X, (s.Z, (s.Free, ()))))) (fun t => ⟨t.1, t.2.1, t.2.2.1, t.2.2.2.1⟩) (fun _ => rfl)
def GCentre.ok (y : GCentre) : Prop := (gI .i64) y.Mass ∧ GRat.ok y.X ∧ GRat.ok y.Z ∧ (gI .i64) y.Free ∧ True
theorem GCentre.l0 : Lens GCentre.rep r_i64 0 (fun x => x.Mass) (fun x y => { x with Mass := y }) := (Lens.iso _ _ _ _).comp (Lens.fst _ _)
theorem GCentre.l1 : Lens GCentre.rep GRat.rep 1 (fun x => x.X) (fun x y => { x with X := y }) := (Lens.iso _ _ _ _).comp ((Lens.snd _ _).comp (Lens.fst _ _))
theorem GCentre.l2 : Lens GCentre.rep GRat.rep 5 (fun x => x.Z) (fun x y => { x with Z := y }) := (Lens.iso _ _ _ _).comp ((Lens.snd _ _).comp ((Lens.snd _ _).comp (Lens.fst _ _)))
theorem GCentre.l3 : Lens GCentre.rep r_i64 9 (fun x => x.Free) (fun x y => { x with Free := y }) := (Lens.iso _ _ _ _).comp ((Lens.snd _ _).comp ((Lens.snd _ _).comp ((Lens.snd _ _).comp (Lens.fst _ _))))
structure GShift where
  Mass : Int
  Distance : Int
  Deflection : Int
def GShift.rep : Rep GShift := Rep.iso (Rep.prod r_i64 (Rep.prod r_i64 (Rep.prod r_i64 Rep.unit))) (fun s => (s.Mass, (s.Distance, (s.Deflection, ())))) (fun t => ⟨t.1, t.2.1, t.2.2.1⟩) (fun _ => rfl)
def GShift.ok (y : GShift) : Prop := (gI .i64) y.Mass ∧ (gI .i64) y.Distance ∧ (gI .i64) y.Deflection ∧ True
theorem GShift.l0 : Lens GShift.rep r_i64 0 (fun x => x.Mass) (fun x y => { x with Mass := y }) := (Lens.iso _ _ _ _).comp (Lens.fst _ _)
theorem GShift.l1 : Lens GShift.rep r_i64 1 (fun x => x.Distance) (fun x y => { x with Distance := y }) := (Lens.iso _ _ _ _).comp ((Lens.snd _ _).comp (Lens.fst _ _))
theorem GShift.l2 : Lens GShift.rep r_i64 2 (fun x => x.Deflection) (fun x y => { x with Deflection := y }) := (Lens.iso _ _ _ _).comp ((Lens.snd _ _).comp ((Lens.snd _ _).comp (Lens.fst _ _)))
structure GIncline where
  Ship : GShip
  Attitude : GAttitude
  Density : Int
  Pendulum : Int
  Shifts : (List GShift)
def GIncline.rep : Rep GIncline := Rep.iso (Rep.prod GShip.rep (Rep.prod GAttitude.rep (Rep.prod r_i64 (Rep.prod r_i64 (Rep.prod (Rep.slice GShift.rep) Rep.unit))))) (fun s => (s.Ship, (s.Attitude, (s.Density, (s.Pendulum, (s.Shifts, ())))))) (fun t => ⟨t.1, t.2.1, t.2.2.1, t.2.2.2.1, t.2.2.2.2.1⟩) (fun _ => rfl)
def GIncline.ok (y : GIncline) : Prop := GShip.ok y.Ship ∧ GAttitude.ok y.Attitude ∧ (gI .i64) y.Density ∧ (gI .i64) y.Pendulum ∧ (gL GShift.ok) y.Shifts ∧ True
theorem GIncline.l0 : Lens GIncline.rep GShip.rep 0 (fun x => x.Ship) (fun x y => { x with Ship := y }) := (Lens.iso _ _ _ _).comp (Lens.fst _ _)
theorem GIncline.l1 : Lens GIncline.rep GAttitude.rep 9 (fun x => x.Attitude) (fun x y => { x with Attitude := y }) := (Lens.iso _ _ _ _).comp ((Lens.snd _ _).comp (Lens.fst _ _))
theorem GIncline.l2 : Lens GIncline.rep r_i64 17 (fun x => x.Density) (fun x y => { x with Density := y }) := (Lens.iso _ _ _ _).comp ((Lens.snd _ _).comp ((Lens.snd _ _).comp (Lens.fst _ _)))
theorem GIncline.l3 : Lens GIncline.rep r_i64 18 (fun x => x.Pendulum) (fun x y => { x with Pendulum := y }) := (Lens.iso _ _ _ _).comp ((Lens.snd _ _).comp ((Lens.snd _ _).comp ((Lens.snd _ _).comp (Lens.fst _ _))))
theorem GIncline.l4 : Lens GIncline.rep (Rep.slice GShift.rep) 19 (fun x => x.Shifts) (fun x y => { x with Shifts := y }) := (Lens.iso _ _ _ _).comp ((Lens.snd _ _).comp ((Lens.snd _ _).comp ((Lens.snd _ _).comp ((Lens.snd _ _).comp (Lens.fst _ _)))))
abbrev zZ : GInt := (⟨false, []⟩ : GInt)
abbrev zQ : GRat := (⟨(⟨false, []⟩ : GInt), (⟨false, []⟩ : GInt)⟩ : GRat)
abbrev qStation : Rep GStation := GStation.rep
abbrev qLoad : Rep GLoad := GLoad.rep
abbrev qShip : Rep GShip := GShip.rep
abbrev qInt : Rep GInt := GInt.rep
abbrev qRat : Rep GRat := GRat.rep
abbrev qAttitude : Rep GAttitude := GAttitude.rep
abbrev qRaised : Rep GRaised := GRaised.rep
abbrev qStable : Rep GStable := GStable.rep
abbrev qHydro : Rep GHydro := GHydro.rep
abbrev qhull_section : Rep Ghull_section := Ghull_section.rep
abbrev qCentre : Rep GCentre := GCentre.rep
abbrev qShift : Rep GShift := GShift.rep
abbrev qIncline : Rep GIncline := GIncline.rep
end Go.KB
