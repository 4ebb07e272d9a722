/- Go's types as Lean types. Printed by a program. No condition. -/
import Derived.Test.YthoopaegiclfaaaGreatKZf
namespace Go.KB
abbrev r_i8 : Rep Int := Rep.int .i8
abbrev r_i16 : Rep Int := Rep.int .i16
abbrev r_i32 : Rep Int := Rep.int .i32
abbrev jQf : Rep Int := Rep.int .i64
abbrev jPd : Rep Int := Rep.int .u8
abbrev jJu : Rep Int := Rep.int .u16
abbrev jQk : Rep Int := Rep.int .u32
abbrev jXg : Rep Int := Rep.int .u64
structure jJy where
  X : Int
  Width : Int
  Levels : (List Int)
  Halves : (List Int)
def jJy.rep : Rep jJy := Rep.iso (Rep.prod jQf (Rep.prod jQf (Rep.prod (Rep.slice jQf) (Rep.prod (Rep.slice jQf) Rep.unit)))) (fun s => (s.X, (s.Width, (s.Levels, (s.Halves, ()))))) (fun t => ⟨t.1, t.2.1, t.2.2.1, t.2.2.2.1⟩) (fun _ => rfl)
def jJy.ok (y : jJy) : Prop := (gI .i64) y.X ∧ (gI .i64) y.Width ∧ (gL (gI .i64)) y.Levels ∧ (gL (gI .i64)) y.Halves ∧ True
theorem jJy.l0 : Lens jJy.rep jQf 0 (fun x => x.X) (fun x y => { x with X := y }) := (Lens.iso _ _ _ _).comp (Lens.fst _ _)
theorem jJy.l1 : Lens jJy.rep jQf 1 (fun x => x.Width) (fun x y => { x with Width := y }) := (Lens.iso _ _ _ _).comp ((Lens.snd _ _).comp (Lens.fst _ _))
theorem jJy.l2 : Lens jJy.rep (Rep.slice jQf) 2 (fun x => x.Levels) (fun x y => { x with Levels := y }) := (Lens.iso _ _ _ _).comp ((Lens.snd _ _).comp ((Lens.snd _ _).comp (Lens.fst _ _)))
theorem jJy.l3 : Lens jJy.rep (Rep.slice jQf) 3 (fun x => x.Halves) (fun x y => { x with Halves := y }) := (Lens.iso _ _ _ _).comp ((Lens.snd _ _).comp ((Lens.snd _ _).comp ((Lens.snd _ _).comp (Lens.fst _ _))))
structure GLoad where
  Name : Str
  Mass : Int
  X : Int
  Z : Int
  Free : Int
def GLoad.rep : Rep GLoad := Rep.iso (Rep.prod Rep.str (Rep.prod jQf (Rep.prod jQf (Rep.prod jQf (Rep.prod jQf Rep.unit))))) (fun s => (s.Name, (s.Mass, (s.X, (s.Z, (s.Free, ())))))) (fun t => ⟨t.1, t.2.1, t.2.2.1, t.2.2.2.1, t.2.2.2.2.1⟩) (fun _ => rfl)
def GLoad.ok (y : GLoad) : Prop := gS y.Name ∧ (gI .i64) y.Mass ∧ (gI .i64) y.X ∧ (gI .i64) y.Z ∧ (gI .i64) y.Free ∧ True
theorem GLoad.l0 : Lens GLoad.rep Rep.str 0 (fun x => x.Name) (fun x y => { x with Name := y }) := (Lens.iso _ _ _ _).comp (Lens.fst _ _)
theorem GLoad.l1 : Lens GLoad.rep jQf 1 (fun x => x.Mass) (fun x y => { x with Mass := y }) := (Lens.iso _ _ _ _).comp ((Lens.snd _ _).comp (Lens.fst _ _))
theorem GLoad.l2 : Lens GLoad.rep jQf 2 (fun x => x.X) (fun x y => { x with X := y }) := (Lens.iso _ _ _ _).comp ((Lens.snd _ _).comp ((Lens.snd _ _).comp (Lens.fst _ _)))
theorem GLoad.l3 : Lens GLoad.rep jQf 3 (fun x => x.Z) (fun x y => { x with Z := y }) := (Lens.iso _ _ _ _).comp ((Lens.snd _ _).comp ((Lens.snd _ _).comp ((Lens.snd _ _).comp (Lens.fst _ _))))
theorem GLoad.l4 : Lens GLoad.rep jQf 4 (fun x => x.Free) (fun x y => { x with Free := y }) := (Lens.iso _ _ _ _).comp ((Lens.snd _ _).comp ((Lens.snd _ _).comp ((Lens.snd _ _).comp ((Lens.snd _ _).comp (Lens.fst _ _)))))
def GLoad.eqb (x y : GLoad) : Bool := ((x.Name == y.Name) && ((x.Mass == y.Mass) && ((x.X == y.X) && ((x.Z == y.Z) && ((x.Free == y.Free) && true)))))
structure GShip where
  Name : Str
  Length : Int
  Stations : (List jJy)
  Light : GLoad
  Items : (List GLoad)
def GShip.rep : Rep GShip := Rep.iso (Rep.prod Rep.str (Rep.prod jQf (Rep.prod (Rep.slice jJy.rep) (Rep.prod GLoad.rep (Rep.prod (Rep.slice GLoad.rep) Rep.unit))))) (fun s => (s.Name, (s.Length, (s.Stations, (s.Light, (s.Items, ())))))) (fun t => ⟨t.1, t.2.1, t.2.2.1, t.2.2.2.1, t.2.2.2.2.1⟩) (fun _ => rfl)
def GShip.ok (y : GShip) : Prop := gS y.Name ∧ (gI .i64) y.Length ∧ (gL jJy.ok) y.Stations ∧ GLoad.ok y.Light ∧ (gL GLoad.ok) y.Items ∧ True
theorem GShip.l0 : Lens GShip.rep Rep.str 0 (fun x => x.Name) (fun x y => { x with Name := y }) := (Lens.iso _ _ _ _).comp (Lens.fst _ _)
theorem GShip.l1 : Lens GShip.rep jQf 1 (fun x => x.Length) (fun x y => { x with Length := y }) := (Lens.iso _ _ _ _).comp ((Lens.snd _ _).comp (Lens.fst _ _))
theorem GShip.l2 : Lens GShip.rep (Rep.slice jJy.rep) 2 (fun x => x.Stations) (fun x y => { x with Stations := y }) := (Lens.iso _ _ _ _).comp ((Lens.snd _ _).comp ((Lens.snd _ _).comp (Lens.fst _ _)))
theorem GShip.l3 : Lens GShip.rep GLoad.rep 3 (fun x => x.Light) (fun x y => { x with Light := y }) := (Lens.iso _ _ _ _).comp ((Lens.snd _ _).comp ((Lens.snd _ _).comp ((Lens.snd _ _).comp (Lens.fst _ _))))
theorem GShip.l4 : Lens GShip.rep (Rep.slice GLoad.rep) 8 (fun x => x.Items) (fun x y => { x with Items := y }) := (Lens.iso _ _ _ _).comp ((Lens.snd _ _).comp ((Lens.snd _ _).comp ((Lens.snd _ _).comp ((Lens.snd _ _).comp (Lens.fst _ _)))))
structure jXz where
  Neg : Bool
  Limbs : (List Int)
def jXz.rep : Rep jXz := Rep.iso (Rep.prod Rep.bool (Rep.prod (Rep.slice jJu) Rep.unit)) (fun s => (s.Neg, (s.Limbs, ()))) (fun t => ⟨t.1, t.2.1⟩) (fun _ => rfl)
def jXz.ok (y : jXz) : Prop := (fun _ => True) y.Neg ∧ (gL (gI .u16)) y.Limbs ∧ True
theorem jXz.l0 : Lens jXz.rep Rep.bool 0 (fun x => x.Neg) (fun x y => { x with Neg := y }) := (Lens.iso _ _ _ _).comp (Lens.fst _ _)
theorem jXz.l1 : Lens jXz.rep (Rep.slice jJu) 1 (fun x => x.Limbs) (fun x y => { x with Limbs := y }) := (Lens.iso _ _ _ _).comp ((Lens.snd _ _).comp (Lens.fst _ _))
structure jQg where
  Num : jXz
  Den : jXz
def jQg.rep : Rep jQg := Rep.iso (Rep.prod jXz.rep (Rep.prod jXz.rep Rep.unit)) (fun s => (s.Num, (s.Den, ()))) (fun t => ⟨t.1, t.2.1⟩) (fun _ => rfl)
def jQg.ok (y : jQg) : Prop := jXz.ok y.Num ∧ jXz.ok y.Den ∧ True
theorem jQg.l0 : Lens jQg.rep jXz.rep 0 (fun x => x.Num) (fun x y => { x with Num := y }) := (Lens.iso _ _ _ _).comp (Lens.fst _ _)
theorem jQg.l1 : Lens jQg.rep jXz.rep 2 (fun x => x.Den) (fun x y => { x with Den := y }) := (Lens.iso _ _ _ _).comp ((Lens.snd _ _).comp (Lens.fst _ _))
structure jZu where
  Sink : jQg
  Slope : jQg
def jZu.rep : Rep jZu := Rep.iso (Rep.prod jQg.rep (Rep.prod jQg.rep Rep.unit)) (fun s => (s.Sink, (s.Slope, ()))) (fun t => ⟨t.1, t.2.1⟩) (fun _ => rfl)
def jZu.ok (y : jZu) : Prop := jQg.ok y.Sink ∧ jQg.ok y.Slope ∧ True
theorem jZu.l0 : Lens jZu.rep jQg.rep 0 (fun x => x.Sink) (fun x y => { x with Sink := y }) := (Lens.iso _ _ _ _).comp (Lens.fst _ _)
theorem jZu.l1 : Lens jZu.rep jQg.rep 4 (fun x => x.Slope) (fun x y => { x with Slope := y }) := (Lens.iso _ _ _ _).comp ((Lens.snd _ _).comp (Lens.fst _ _))
structure jJz where
  Volume : jQg
  Displacement : jQg
  X : jQg
  Z : jQg
  Area : jQg
  Float : jQg
  Cross : jQg
  Long : jQg
  Meta : jQg
def jJz.rep : Rep jJz := Rep.iso (Rep.prod jQg.rep (Rep.prod jQg.rep (Rep.prod jQg.rep (Rep.prod jQg.rep (Rep.prod jQg.rep (Rep.prod jQg.rep (Rep.prod jQg.rep (Rep.prod jQg.rep (Rep.prod jQg.rep Rep.unit))))))))) (fun s => (s.Volume, (s.Displacement, (s.X, (s.Z, (s.Area, (s.Float, (s.Cross, (s.Long, (s.Meta, ())))))))))) (fun t => ⟨t.1, t.2.1, t.2.2.1, t.2.2.2.1, t.2.2.2.2.1, t.2.2.2.2.2.1, t.2.2.2.2.2.2.1, t.2.2.2.2.2.2.2.1, t.2.2.2.2.2.2.2.2.1⟩) (fun _ => rfl)
def jJz.ok (y : jJz) : Prop := jQg.ok y.Volume ∧ jQg.ok y.Displacement ∧ jQg.ok y.X ∧ jQg.ok y.Z ∧ jQg.ok y.Area ∧ jQg.ok y.Float ∧ jQg.ok y.Cross ∧ jQg.ok y.Long ∧ jQg.ok y.Meta ∧ True
theorem jJz.l0 : Lens jJz.rep jQg.rep 0 (fun x => x.Volume) (fun x y => { x with Volume := y }) := (Lens.iso _ _ _ _).comp (Lens.fst _ _)
theorem jJz.l1 : Lens jJz.rep jQg.rep 4 (fun x => x.Displacement) (fun x y => { x with Displacement := y }) := (Lens.iso _ _ _ _).comp ((Lens.snd _ _).comp (Lens.fst _ _))
theorem jJz.l2 : Lens jJz.rep jQg.rep 8 (fun x => x.X) (fun x y => { x with X := y }) := (Lens.iso _ _ _ _).comp ((Lens.snd _ _).comp ((Lens.snd _ _).comp (Lens.fst _ _)))
theorem jJz.l3 : Lens jJz.rep jQg.rep 12 (fun x => x.Z) (fun x y => { x with Z := y }) := (Lens.iso _ _ _ _).comp ((Lens.snd _ _).comp ((Lens.snd _ _).comp ((Lens.snd _ _).comp (Lens.fst _ _))))
theorem jJz.l4 : Lens jJz.rep jQg.rep 16 (fun x => x.Area) (fun x y => { x with Area := y }) := (Lens.iso _ _ _ _).comp ((Lens.snd _ _).comp ((Lens.snd _ _).comp ((Lens.snd _ _).comp ((Lens.snd _ _).comp (Lens.fst _ _)))))
theorem jJz.l5 : Lens jJz.rep jQg.rep 20 (fun x => x.Float) (fun x y => { x with Float := y }) := (Lens.iso _ _ _ _).comp ((Lens.snd _ _).comp ((Lens.snd _ _).comp ((Lens.snd _ _).comp ((Lens.snd _ _).comp ((Lens.snd _ _).comp (Lens.fst _ _))))))
theorem jJz.l6 : Lens jJz.rep jQg.rep 24 (fun x => x.Cross) (fun x y => { x with Cross := y }) := (Lens.iso _ _ _ _).comp ((Lens.snd _ _).comp ((Lens.snd _ _).comp ((Lens.snd _ _).comp ((Lens.snd _ _).comp ((Lens.snd _ _).comp ((Lens.snd _ _).comp (Lens.fst _ _)))))))
theorem jJz.l7 : Lens jJz.rep jQg.rep 28 (fun x => x.Long) (fun x y => { x with Long := y }) := (Lens.iso _ _ _ _).comp ((Lens.snd _ _).comp ((Lens.snd _ _).comp ((Lens.snd _ _).comp ((Lens.snd _ _).comp ((Lens.snd _ _).comp ((Lens.snd _ _).comp ((Lens.snd _ _).comp (Lens.fst _ _))))))))
theorem jJz.l8 : Lens jJz.rep jQg.rep 32 (fun x => x.Meta) (fun x y => { x with Meta := y }) := (Lens.iso _ _ _ _).comp ((Lens.snd _ _).comp ((Lens.snd _ _).comp ((Lens.snd _ _).comp ((Lens.snd _ _).comp ((Lens.snd _ _).comp ((Lens.snd _ _).comp ((Lens.snd _ _).comp ((Lens.snd _ _).comp (Lens.fst _ _)))))))))
structure jJm where
  area : jQg
  moment : jQg
def jJm.rep : Rep jJm := Rep.iso (Rep.prod jQg.rep (Rep.prod jQg.rep Rep.unit)) (fun s => (s.area, (s.moment, ()))) (fun t => ⟨t.1, t.2.1⟩) (fun _ => rfl)
def jJm.ok (y : jJm) : Prop := jQg.ok y.area ∧ jQg.ok y.moment ∧ True
theorem jJm.l0 : Lens jJm.rep jQg.rep 0 (fun x => x.area) (fun x y => { x with area := y }) := (Lens.iso _ _ _ _).comp (Lens.fst _ _)
theorem jJm.l1 : Lens jJm.rep jQg.rep 4 (fun x => x.moment) (fun x y => { x with moment := y }) := (Lens.iso _ _ _ _).comp ((Lens.snd _ _).comp (Lens.fst _ _))
structure jKz where
  Density : Int
  Upthrust : jQg
def jKz.rep : Rep jKz := Rep.iso (Rep.prod jQf (Rep.prod jQg.rep Rep.unit)) (fun s => (s.Density, (s.Upthrust, ()))) (fun t => ⟨t.1, t.2.1⟩) (fun _ => rfl)
def jKz.ok (y : jKz) : Prop := (gI .i64) y.Density ∧ jQg.ok y.Upthrust ∧ True
theorem jKz.l0 : Lens jKz.rep jQf 0 (fun x => x.Density) (fun x y => { x with Density := y }) := (Lens.iso _ _ _ _).comp (Lens.fst _ _)
theorem jKz.l1 : Lens jKz.rep jQg.rep 1 (fun x => x.Upthrust) (fun x y => { x with Upthrust := y }) := (Lens.iso _ _ _ _).comp ((Lens.snd _ _).comp (Lens.fst _ _))
structure jXh where
  KM : jQg
  KG : jQg
  GM : jQg
  Other : jQg
def jXh.rep : Rep jXh := Rep.iso (Rep.prod jQg.rep (Rep.prod jQg.rep (Rep.prod jQg.rep (Rep.prod jQg.rep Rep.unit)))) (fun s => (s.KM, (s.KG, (s.GM, (s.Other, ()))))) (fun t => ⟨t.1, t.2.1, t.2.2.1, t.2.2.2.1⟩) (fun _ => rfl)
def jXh.ok (y : jXh) : Prop := jQg.ok y.KM ∧ jQg.ok y.KG ∧ jQg.ok y.GM ∧ jQg.ok y.Other ∧ True
theorem jXh.l0 : Lens jXh.rep jQg.rep 0 (fun x => x.KM) (fun x y => { x with KM := y }) := (Lens.iso _ _ _ _).comp (Lens.fst _ _)
theorem jXh.l1 : Lens jXh.rep jQg.rep 4 (fun x => x.KG) (fun x y => { x with KG := y }) := (Lens.iso _ _ _ _).comp ((Lens.snd _ _).comp (Lens.fst _ _))
theorem jXh.l2 : Lens jXh.rep jQg.rep 8 (fun x => x.GM) (fun x y => { x with GM := y }) := (Lens.iso _ _ _ _).comp ((Lens.snd _ _).comp ((Lens.snd _ _).comp (Lens.fst _ _)))
theorem jXh.l3 : Lens jXh.rep jQg.rep 12 (fun x => x.Other) (fun x y => { x with Other := y }) := (Lens.iso _ _ _ _).comp ((Lens.snd _ _).comp ((Lens.snd _ _).comp ((Lens.snd _ _).comp (Lens.fst _ _))))
structure jQx where
  Mass : Int
  X : jQg
  Z : jQg
  Free : Int
def jQx.rep : Rep jQx := Rep.iso (Rep.prod jQf (Rep.prod jQg.rep (Rep.prod jQg.rep (Rep.prod jQf Rep.unit)))) (fun s => (s.Mass, (s.X, (s.Z, (s.Free, ()))))) (fun t => ⟨t.1, t.2.1, t.2.2.1, t.2.2.2.1⟩) (fun _ => rfl)
def jQx.ok (y : jQx) : Prop := (gI .i64) y.Mass ∧ jQg.ok y.X ∧ jQg.ok y.Z ∧ (gI .i64) y.Free ∧ True
theorem jQx.l0 : Lens jQx.rep jQf 0 (fun x => x.Mass) (fun x y => { x with Mass := y }) := (Lens.iso _ _ _ _).comp (Lens.fst _ _)
theorem jQx.l1 : Lens jQx.rep jQg.rep 1 (fun x => x.X) (fun x y => { x with X := y }) := (Lens.iso _ _ _ _).comp ((Lens.snd _ _).comp (Lens.fst _ _))
theorem jQx.l2 : Lens jQx.rep jQg.rep 5 (fun x => x.Z) (fun x y => { x with Z := y }) := (Lens.iso _ _ _ _).comp ((Lens.snd _ _).comp ((Lens.snd _ _).comp (Lens.fst _ _)))
theorem jQx.l3 : Lens jQx.rep jQf 9 (fun x => x.Free) (fun x y => { x with Free := y }) := (Lens.iso _ _ _ _).comp ((Lens.snd _ _).comp ((Lens.snd _ _).comp ((Lens.snd _ _).comp (Lens.fst _ _))))
structure jX7 where
  Starts : (List Int)
  Slopes : (List jQg)
def jX7.rep : Rep jX7 := Rep.iso (Rep.prod (Rep.slice jQf) (Rep.prod (Rep.slice jQg.rep) Rep.unit)) (fun s => (s.Starts, (s.Slopes, ()))) (fun t => ⟨t.1, t.2.1⟩) (fun _ => rfl)
def jX7.ok (y : jX7) : Prop := (gL (gI .i64)) y.Starts ∧ (gL jQg.ok) y.Slopes ∧ True
theorem jX7.l0 : Lens jX7.rep (Rep.slice jQf) 0 (fun x => x.Starts) (fun x y => { x with Starts := y }) := (Lens.iso _ _ _ _).comp (Lens.fst _ _)
theorem jX7.l1 : Lens jX7.rep (Rep.slice jQg.rep) 1 (fun x => x.Slopes) (fun x y => { x with Slopes := y }) := (Lens.iso _ _ _ _).comp ((Lens.snd _ _).comp (Lens.fst _ _))
structure jX5 where
  X : Int
  C : jQg
  Curve : jX7
def jX5.rep : Rep jX5 := Rep.iso (Rep.prod jQf (Rep.prod jQg.rep (Rep.prod jX7.rep Rep.unit))) (fun s => (s.X, (s.C, (s.Curve, ())))) (fun t => ⟨t.1, t.2.1, t.2.2.1⟩) (fun _ => rfl)
def jX5.ok (y : jX5) : Prop := (gI .i64) y.X ∧ jQg.ok y.C ∧ jX7.ok y.Curve ∧ True
theorem jX5.l0 : Lens jX5.rep jQf 0 (fun x => x.X) (fun x y => { x with X := y }) := (Lens.iso _ _ _ _).comp (Lens.fst _ _)
theorem jX5.l1 : Lens jX5.rep jQg.rep 1 (fun x => x.C) (fun x y => { x with C := y }) := (Lens.iso _ _ _ _).comp ((Lens.snd _ _).comp (Lens.fst _ _))
theorem jX5.l2 : Lens jX5.rep jX7.rep 5 (fun x => x.Curve) (fun x y => { x with Curve := y }) := (Lens.iso _ _ _ _).comp ((Lens.snd _ _).comp ((Lens.snd _ _).comp (Lens.fst _ _)))
abbrev zZ : jXz := (⟨false, []⟩ : jXz)
abbrev zQ : jQg := (⟨(⟨false, []⟩ : jXz), (⟨false, []⟩ : jXz)⟩ : jQg)
abbrev jJj := jJy.rep
abbrev jJh := GLoad.rep
abbrev jJx := GShip.rep
abbrev jXm := jXz.rep
abbrev jJd := jQg.rep
abbrev jQn := jZu.rep
abbrev jQq := jJz.rep
abbrev jJa := jJm.rep
abbrev jDx := jKz.rep
abbrev jVp := jXh.rep
abbrev jX4 := jQx.rep
abbrev jHu := jX7.rep
abbrev jQp := jX5.rep
end Go.KB
