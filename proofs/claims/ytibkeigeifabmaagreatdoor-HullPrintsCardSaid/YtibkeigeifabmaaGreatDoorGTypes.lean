/- Go's types as Lean types. Printed by a program. No condition. -/
import Derived.Test.YtibkeigeifabmaaGreatDoorKZf
namespace Go.KB
abbrev r_i8 : Rep Int := Rep.int .i8
abbrev r_i16 : Rep Int := Rep.int .i16
abbrev jLl : Rep Int := Rep.int .i32
abbrev jJl : Rep Int := Rep.int .i64
abbrev jDt : Rep Int := Rep.int .u8
abbrev jJu : Rep Int := Rep.int .u16
abbrev jQl : Rep Int := Rep.int .u32
abbrev jXk : Rep Int := Rep.int .u64
structure jJv where
  X : Int
  Width : Int
  Levels : (List Int)
  Halves : (List Int)
def jJv.rep : Rep jJv := Rep.iso (Rep.prod jJl (Rep.prod jJl (Rep.prod (Rep.slice jJl) (Rep.prod (Rep.slice jJl) Rep.unit)))) (fun s => (s.X, (s.Width, (s.Levels, (s.Halves, ()))))) (fun t => ⟨t.1, t.2.1, t.2.2.1, t.2.2.2.1⟩) (fun _ => rfl)
def jJv.ok (y : jJv) : Prop := (gI .i64) y.X ∧ (gI .i64) y.Width ∧ (gL (gI .i64)) y.Levels ∧ (gL (gI .i64)) y.Halves ∧ True
theorem jJv.l0 : Lens jJv.rep jJl 0 (fun x => x.X) (fun x y => { x with X := y }) := (Lens.iso _ _ _ _).comp (Lens.fst _ _)
theorem jJv.l1 : Lens jJv.rep jJl 1 (fun x => x.Width) (fun x y => { x with Width := y }) := (Lens.iso _ _ _ _).comp ((Lens.snd _ _).comp (Lens.fst _ _))
theorem jJv.l2 : Lens jJv.rep (Rep.slice jJl) 2 (fun x => x.Levels) (fun x y => { x with Levels := y }) := (Lens.iso _ _ _ _).comp ((Lens.snd _ _).comp ((Lens.snd _ _).comp (Lens.fst _ _)))
theorem jJv.l3 : Lens jJv.rep (Rep.slice jJl) 3 (fun x => x.Halves) (fun x y => { x with Halves := y }) := (Lens.iso _ _ _ _).comp ((Lens.snd _ _).comp ((Lens.snd _ _).comp ((Lens.snd _ _).comp (Lens.fst _ _))))
structure jJc where
  Name : Str
  Mass : Int
  X : Int
  Z : Int
  Free : Int
def jJc.rep : Rep jJc := Rep.iso (Rep.prod Rep.str (Rep.prod jJl (Rep.prod jJl (Rep.prod jJl (Rep.prod jJl Rep.unit))))) (fun s => (s.Name, (s.Mass, (s.X, (s.Z, (s.Free, ())))))) (fun t => ⟨t.1, t.2.1, t.2.2.1, t.2.2.2.1, t.2.2.2.2.1⟩) (fun _ => rfl)
def jJc.ok (y : jJc) : Prop := gS y.Name ∧ (gI .i64) y.Mass ∧ (gI .i64) y.X ∧ (gI .i64) y.Z ∧ (gI .i64) y.Free ∧ True
theorem jJc.l0 : Lens jJc.rep Rep.str 0 (fun x => x.Name) (fun x y => { x with Name := y }) := (Lens.iso _ _ _ _).comp (Lens.fst _ _)
theorem jJc.l1 : Lens jJc.rep jJl 1 (fun x => x.Mass) (fun x y => { x with Mass := y }) := (Lens.iso _ _ _ _).comp ((Lens.snd _ _).comp (Lens.fst _ _))
theorem jJc.l2 : Lens jJc.rep jJl 2 (fun x => x.X) (fun x y => { x with X := y }) := (Lens.iso _ _ _ _).comp ((Lens.snd _ _).comp ((Lens.snd _ _).comp (Lens.fst _ _)))
theorem jJc.l3 : Lens jJc.rep jJl 3 (fun x => x.Z) (fun x y => { x with Z := y }) := (Lens.iso _ _ _ _).comp ((Lens.snd _ _).comp ((Lens.snd _ _).comp ((Lens.snd _ _).comp (Lens.fst _ _))))
theorem jJc.l4 : Lens jJc.rep jJl 4 (fun x => x.Free) (fun x y => { x with Free := y }) := (Lens.iso _ _ _ _).comp ((Lens.snd _ _).comp ((Lens.snd _ _).comp ((Lens.snd _ _).comp ((Lens.snd _ _).comp (Lens.fst _ _)))))
def jJc.eqb (x y : jJc) : Bool := ((x.Name == y.Name) && ((x.Mass == y.Mass) && ((x.X == y.X) && ((x.Z == y.Z) && ((x.Free == y.Free) && true)))))
structure GShip where
  Name : Str
  Length : Int
  Stations : (List jJv)
  Light : jJc
  Items : (List jJc)
def GShip.rep : Rep GShip := Rep.iso (Rep.prod Rep.str (Rep.prod jJl (Rep.prod (Rep.slice jJv.rep) (Rep.prod jJc.rep (Rep.prod (Rep.slice jJc.rep) Rep.unit))))) (fun s => (s.Name, (s.Length, (s.Stations, (s.Light, (s.Items, ())))))) (fun t => ⟨t.1, t.2.1, t.2.2.1, t.2.2.2.1, t.2.2.2.2.1⟩) (fun _ => rfl)
def GShip.ok (y : GShip) : Prop := gS y.Name ∧ (gI .i64) y.Length ∧ (gL jJv.ok) y.Stations ∧ jJc.ok y.Light ∧ (gL jJc.ok) y.Items ∧ True
theorem GShip.l0 : Lens GShip.rep Rep.str 0 (fun x => x.Name) (fun x y => { x with Name := y }) := (Lens.iso _ _ _ _).comp (Lens.fst _ _)
theorem GShip.l1 : Lens GShip.rep jJl 1 (fun x => x.Length) (fun x y => { x with Length := y }) := (Lens.iso _ _ _ _).comp ((Lens.snd _ _).comp (Lens.fst _ _))
theorem GShip.l2 : Lens GShip.rep (Rep.slice jJv.rep) 2 (fun x => x.Stations) (fun x y => { x with Stations := y }) := (Lens.iso _ _ _ _).comp ((Lens.snd _ _).comp ((Lens.snd _ _).comp (Lens.fst _ _)))
theorem GShip.l3 : Lens GShip.rep jJc.rep 3 (fun x => x.Light) (fun x y => { x with Light := y }) := (Lens.iso _ _ _ _).comp ((Lens.snd _ _).comp ((Lens.snd _ _).comp ((Lens.snd _ _).comp (Lens.fst _ _))))
theorem GShip.l4 : Lens GShip.rep (Rep.slice jJc.rep) 8 (fun x => x.Items) (fun x y => { x with Items := y }) := (Lens.iso _ _ _ _).comp ((Lens.snd _ _).comp ((Lens.snd _ _).comp ((Lens.snd _ _).comp ((Lens.snd _ _).comp (Lens.fst _ _)))))
structure jXu where
  Neg : Bool
  Limbs : (List Int)
def jXu.rep : Rep jXu := Rep.iso (Rep.prod Rep.bool (Rep.prod (Rep.slice jJu) Rep.unit)) (fun s => (s.Neg, (s.Limbs, ()))) (fun t => ⟨t.1, t.2.1⟩) (fun _ => rfl)
def jXu.ok (y : jXu) : Prop := (fun _ => True) y.Neg ∧ (gL (gI .u16)) y.Limbs ∧ True
theorem jXu.l0 : Lens jXu.rep Rep.bool 0 (fun x => x.Neg) (fun x y => { x with Neg := y }) := (Lens.iso _ _ _ _).comp (Lens.fst _ _)
theorem jXu.l1 : Lens jXu.rep (Rep.slice jJu) 1 (fun x => x.Limbs) (fun x y => { x with Limbs := y }) := (Lens.iso _ _ _ _).comp ((Lens.snd _ _).comp (Lens.fst _ _))
structure jQ2 where
  Num : jXu
  Den : jXu
def jQ2.rep : Rep jQ2 := Rep.iso (Rep.prod jXu.rep (Rep.prod jXu.rep Rep.unit)) (fun s => (s.Num, (s.Den, ()))) (fun t => ⟨t.1, t.2.1⟩) (fun _ => rfl)
def jQ2.ok (y : jQ2) : Prop := jXu.ok y.Num ∧ jXu.ok y.Den ∧ True
theorem jQ2.l0 : Lens jQ2.rep jXu.rep 0 (fun x => x.Num) (fun x y => { x with Num := y }) := (Lens.iso _ _ _ _).comp (Lens.fst _ _)
theorem jQ2.l1 : Lens jQ2.rep jXu.rep 2 (fun x => x.Den) (fun x y => { x with Den := y }) := (Lens.iso _ _ _ _).comp ((Lens.snd _ _).comp (Lens.fst _ _))
structure jZz where
  Sink : jQ2
  Slope : jQ2
def jZz.rep : Rep jZz := Rep.iso (Rep.prod jQ2.rep (Rep.prod jQ2.rep Rep.unit)) (fun s => (s.Sink, (s.Slope, ()))) (fun t => ⟨t.1, t.2.1⟩) (fun _ => rfl)
def jZz.ok (y : jZz) : Prop := jQ2.ok y.Sink ∧ jQ2.ok y.Slope ∧ True
theorem jZz.l0 : Lens jZz.rep jQ2.rep 0 (fun x => x.Sink) (fun x y => { x with Sink := y }) := (Lens.iso _ _ _ _).comp (Lens.fst _ _)
theorem jZz.l1 : Lens jZz.rep jQ2.rep 4 (fun x => x.Slope) (fun x y => { x with Slope := y }) := (Lens.iso _ _ _ _).comp ((Lens.snd _ _).comp (Lens.fst _ _))
structure jJw where
  Volume : jQ2
  Displacement : jQ2
  X : jQ2
  Z : jQ2
  Area : jQ2
  Float : jQ2
  Cross : jQ2
  Long : jQ2
  Meta : jQ2
def jJw.rep : Rep jJw := Rep.iso (Rep.prod jQ2.rep (Rep.prod jQ2.rep (Rep.prod jQ2.rep (Rep.prod jQ2.rep (Rep.prod jQ2.rep (Rep.prod jQ2.rep (Rep.prod jQ2.rep (Rep.prod jQ2.rep (Rep.prod jQ2.rep Rep.unit))))))))) (fun s => (s.Volume, (s.Displacement, (s.X, (s.Z, (s.Area, (s.Float, (s.Cross, (s.Long, (s.Meta, ())))))))))) (fun t => ⟨t.1, t.2.1, t.2.2.1, t.2.2.2.1, t.2.2.2.2.1, t.2.2.2.2.2.1, t.2.2.2.2.2.2.1, t.2.2.2.2.2.2.2.1, t.2.2.2.2.2.2.2.2.1⟩) (fun _ => rfl)
def jJw.ok (y : jJw) : Prop := jQ2.ok y.Volume ∧ jQ2.ok y.Displacement ∧ jQ2.ok y.X ∧ jQ2.ok y.Z ∧ jQ2.ok y.Area ∧ jQ2.ok y.Float ∧ jQ2.ok y.Cross ∧ jQ2.ok y.Long ∧ jQ2.ok y.Meta ∧ True
theorem jJw.l0 : Lens jJw.rep jQ2.rep 0 (fun x => x.Volume) (fun x y => { x with Volume := y }) := (Lens.iso _ _ _ _).comp (Lens.fst _ _)
theorem jJw.l1 : Lens jJw.rep jQ2.rep 4 (fun x => x.Displacement) (fun x y => { x with Displacement := y }) := (Lens.iso _ _ _ _).comp ((Lens.snd _ _).comp (Lens.fst _ _))
theorem jJw.l2 : Lens jJw.rep jQ2.rep 8 (fun x => x.X) (fun x y => { x with X := y }) := (Lens.iso _ _ _ _).comp ((Lens.snd _ _).comp ((Lens.snd _ _).comp (Lens.fst _ _)))
theorem jJw.l3 : Lens jJw.rep jQ2.rep 12 (fun x => x.Z) (fun x y => { x with Z := y }) := (Lens.iso _ _ _ _).comp ((Lens.snd _ _).comp ((Lens.snd _ _).comp ((Lens.snd _ _).comp (Lens.fst _ _))))
theorem jJw.l4 : Lens jJw.rep jQ2.rep 16 (fun x => x.Area) (fun x y => { x with Area := y }) := (Lens.iso _ _ _ _).comp ((Lens.snd _ _).comp ((Lens.snd _ _).comp ((Lens.snd _ _).comp ((Lens.snd _ _).comp (Lens.fst _ _)))))
theorem jJw.l5 : Lens jJw.rep jQ2.rep 20 (fun x => x.Float) (fun x y => { x with Float := y }) := (Lens.iso _ _ _ _).comp ((Lens.snd _ _).comp ((Lens.snd _ _).comp ((Lens.snd _ _).comp ((Lens.snd _ _).comp ((Lens.snd _ _).comp (Lens.fst _ _))))))
theorem jJw.l6 : Lens jJw.rep jQ2.rep 24 (fun x => x.Cross) (fun x y => { x with Cross := y }) := (Lens.iso _ _ _ _).comp ((Lens.snd _ _).comp ((Lens.snd _ _).comp ((Lens.snd _ _).comp ((Lens.snd _ _).comp ((Lens.snd _ _).comp ((Lens.snd _ _).comp (Lens.fst _ _)))))))
theorem jJw.l7 : Lens jJw.rep jQ2.rep 28 (fun x => x.Long) (fun x y => { x with Long := y }) := (Lens.iso _ _ _ _).comp ((Lens.snd _ _).comp ((Lens.snd _ _).comp ((Lens.snd _ _).comp ((Lens.snd _ _).comp ((Lens.snd _ _).comp ((Lens.snd _ _).comp ((Lens.snd _ _).comp (Lens.fst _ _))))))))
theorem jJw.l8 : Lens jJw.rep jQ2.rep 32 (fun x => x.Meta) (fun x y => { x with Meta := y }) := (Lens.iso _ _ _ _).comp ((Lens.snd _ _).comp ((Lens.snd _ _).comp ((Lens.snd _ _).comp ((Lens.snd _ _).comp ((Lens.snd _ _).comp ((Lens.snd _ _).comp ((Lens.snd _ _).comp ((Lens.snd _ _).comp (Lens.fst _ _)))))))))
structure jJs where
  area : jQ2
  moment : jQ2
def jJs.rep : Rep jJs := Rep.iso (Rep.prod jQ2.rep (Rep.prod jQ2.rep Rep.unit)) (fun s => (s.area, (s.moment, ()))) (fun t => ⟨t.1, t.2.1⟩) (fun _ => rfl)
def jJs.ok (y : jJs) : Prop := jQ2.ok y.area ∧ jQ2.ok y.moment ∧ True
theorem jJs.l0 : Lens jJs.rep jQ2.rep 0 (fun x => x.area) (fun x y => { x with area := y }) := (Lens.iso _ _ _ _).comp (Lens.fst _ _)
theorem jJs.l1 : Lens jJs.rep jQ2.rep 4 (fun x => x.moment) (fun x y => { x with moment := y }) := (Lens.iso _ _ _ _).comp ((Lens.snd _ _).comp (Lens.fst _ _))
structure jYr where
  Density : Int
  Upthrust : jQ2
def jYr.rep : Rep jYr := Rep.iso (Rep.prod jJl (Rep.prod jQ2.rep Rep.unit)) (fun s => (s.Density, (s.Upthrust, ()))) (fun t => ⟨t.1, t.2.1⟩) (fun _ => rfl)
def jYr.ok (y : jYr) : Prop := (gI .i64) y.Density ∧ jQ2.ok y.Upthrust ∧ True
theorem jYr.l0 : Lens jYr.rep jJl 0 (fun x => x.Density) (fun x y => { x with Density := y }) := (Lens.iso _ _ _ _).comp (Lens.fst _ _)
theorem jYr.l1 : Lens jYr.rep jQ2.rep 1 (fun x => x.Upthrust) (fun x y => { x with Upthrust := y }) := (Lens.iso _ _ _ _).comp ((Lens.snd _ _).comp (Lens.fst _ _))
structure jXs where
  KM : jQ2
  KG : jQ2
  GM : jQ2
  Other : jQ2
def jXs.rep : Rep jXs := Rep.iso (Rep.prod jQ2.rep (Rep.prod jQ2.rep (Rep.prod jQ2.rep (Rep.prod jQ2.rep Rep.unit)))) (fun s => (s.KM, (s.KG, (s.GM, (s.Other, ()))))) (fun t => ⟨t.1, t.2.1, t.2.2.1, t.2.2.2.1⟩) (fun _ => rfl)
def jXs.ok (y : jXs) : Prop := jQ2.ok y.KM ∧ jQ2.ok y.KG ∧ jQ2.ok y.GM ∧ jQ2.ok y.Other ∧ True
theorem jXs.l0 : Lens jXs.rep jQ2.rep 0 (fun x => x.KM) (fun x y => { x with KM := y }) := (Lens.iso _ _ _ _).comp (Lens.fst _ _)
theorem jXs.l1 : Lens jXs.rep jQ2.rep 4 (fun x => x.KG) (fun x y => { x with KG := y }) := (Lens.iso _ _ _ _).comp ((Lens.snd _ _).comp (Lens.fst _ _))
theorem jXs.l2 : Lens jXs.rep jQ2.rep 8 (fun x => x.GM) (fun x y => { x with GM := y }) := (Lens.iso _ _ _ _).comp ((Lens.snd _ _).comp ((Lens.snd _ _).comp (Lens.fst _ _)))
theorem jXs.l3 : Lens jXs.rep jQ2.rep 12 (fun x => x.Other) (fun x y => { x with Other := y }) := (Lens.iso _ _ _ _).comp ((Lens.snd _ _).comp ((Lens.snd _ _).comp ((Lens.snd _ _).comp (Lens.fst _ _))))
structure jQd where
  Mass : Int
  X : jQ2
  Z : jQ2
  Free : Int
def jQd.rep : Rep jQd := Rep.iso (Rep.prod jJl (Rep.prod jQ2.rep (Rep.prod jQ2.rep (Rep.prod jJl Rep.unit)))) (fun s => (s.Mass, (s.X, (s.Z, (s.Free, ()))))) (fun t => ⟨t.1, t.2.1, t.2.2.1, t.2.2.2.1⟩) (fun _ => rfl)
def jQd.ok (y : jQd) : Prop := (gI .i64) y.Mass ∧ jQ2.ok y.X ∧ jQ2.ok y.Z ∧ (gI .i64) y.Free ∧ True
theorem jQd.l0 : Lens jQd.rep jJl 0 (fun x => x.Mass) (fun x y => { x with Mass := y }) := (Lens.iso _ _ _ _).comp (Lens.fst _ _)
theorem jQd.l1 : Lens jQd.rep jQ2.rep 1 (fun x => x.X) (fun x y => { x with X := y }) := (Lens.iso _ _ _ _).comp ((Lens.snd _ _).comp (Lens.fst _ _))
theorem jQd.l2 : Lens jQd.rep jQ2.rep 5 (fun x => x.Z) (fun x y => { x with Z := y }) := (Lens.iso _ _ _ _).comp ((Lens.snd _ _).comp ((Lens.snd _ _).comp (Lens.fst _ _)))
theorem jQd.l3 : Lens jQd.rep jJl 9 (fun x => x.Free) (fun x y => { x with Free := y }) := (Lens.iso _ _ _ _).comp ((Lens.snd _ _).comp ((Lens.snd _ _).comp ((Lens.snd _ _).comp (Lens.fst _ _))))
structure jJp where
  word : Str
  name : Str
  numbers : (List Int)
def jJp.rep : Rep jJp := Rep.iso (Rep.prod Rep.str (Rep.prod Rep.str (Rep.prod (Rep.slice jJl) Rep.unit))) (fun s => (s.word, (s.name, (s.numbers, ())))) (fun t => ⟨t.1, t.2.1, t.2.2.1⟩) (fun _ => rfl)
def jJp.ok (y : jJp) : Prop := gS y.word ∧ gS y.name ∧ (gL (gI .i64)) y.numbers ∧ True
theorem jJp.l0 : Lens jJp.rep Rep.str 0 (fun x => x.word) (fun x y => { x with word := y }) := (Lens.iso _ _ _ _).comp (Lens.fst _ _)
theorem jJp.l1 : Lens jJp.rep Rep.str 1 (fun x => x.name) (fun x y => { x with name := y }) := (Lens.iso _ _ _ _).comp ((Lens.snd _ _).comp (Lens.fst _ _))
theorem jJp.l2 : Lens jJp.rep (Rep.slice jJl) 2 (fun x => x.numbers) (fun x y => { x with numbers := y }) := (Lens.iso _ _ _ _).comp ((Lens.snd _ _).comp ((Lens.snd _ _).comp (Lens.fst _ _)))
structure jKh where
  line : Int
def jKh.rep : Rep jKh := Rep.iso (Rep.prod jJl Rep.unit) (fun s => (s.line, ())) (fun t => ⟨t.1⟩) (fun _ => rfl)
def jKh.ok (y : jKh) : Prop := (gI .i64) y.line ∧ True
theorem jKh.l0 : Lens jKh.rep jJl 0 (fun x => x.line) (fun x y => { x with line := y }) := (Lens.iso _ _ _ _).comp (Lens.fst _ _)
abbrev zZ : jXu := (⟨false, []⟩ : jXu)
abbrev zQ : jQ2 := (⟨(⟨false, []⟩ : jXu), (⟨false, []⟩ : jXu)⟩ : jQ2)
abbrev jJj := jJv.rep
abbrev jJg := jJc.rep
abbrev jJb := GShip.rep
abbrev jXd := jXu.rep
abbrev jJn := jQ2.rep
abbrev jQc := jZz.rep
abbrev jQg := jJw.rep
abbrev jJ8 := jJs.rep
abbrev jD2 := jYr.rep
abbrev jVd := jXs.rep
abbrev jX3 := jQd.rep
abbrev jJ2 := jJp.rep
abbrev qhull_wrong := jKh.rep
end Go.KB
