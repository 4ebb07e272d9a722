/- Go's types as Lean types. Printed by a program. No condition. -/
import Derived.Test.YtcoggcadlinmdaaGreatDoorKZf
namespace Go.KB
abbrev r_i8 : Rep Int := Rep.int .i8
abbrev r_i16 : Rep Int := Rep.int .i16
abbrev jNe : Rep Int := Rep.int .i32
abbrev jJf : Rep Int := Rep.int .i64
abbrev jH0 : Rep Int := Rep.int .u8
abbrev jJy : Rep Int := Rep.int .u16
abbrev jQh : Rep Int := Rep.int .u32
abbrev jXz : Rep Int := Rep.int .u64
structure jJv where
  X : Int
  Width : Int
  Levels : (List Int)
  Halves : (List Int)
def jJv.rep : Rep jJv := Rep.iso (Rep.prod jJf (Rep.prod jJf (Rep.prod (Rep.slice jJf) (Rep.prod (Rep.slice jJf) Rep.unit)))) (fun s => (s.X, (s.Width, (s.Levels, (s.Halves, ()))))) (fun t => ⟨t.1, t.2.1, t.2.2.1, t.2.2.2.1⟩) (fun _ => rfl)
def jJv.ok (y : jJv) : Prop := (gI .i64) y.X ∧ (gI .i64) y.Width ∧ (gL (gI .i64)) y.Levels ∧ (gL (gI .i64)) y.Halves ∧ True
theorem jJv.l0 : Lens jJv.rep jJf 0 (fun x => x.X) (fun x y => { x with X := y }) := (Lens.iso _ _ _ _).comp (Lens.fst _ _)
theorem jJv.l1 : Lens jJv.rep jJf 1 (fun x => x.Width) (fun x y => { x with Width := y }) := (Lens.iso _ _ _ _).comp ((Lens.snd _ _).comp (Lens.fst _ _))
theorem jJv.l2 : Lens jJv.rep (Rep.slice jJf) 2 (fun x => x.Levels) (fun x y => { x with Levels := y }) := (Lens.iso _ _ _ _).comp ((Lens.snd _ _).comp ((Lens.snd _ _).comp (Lens.fst _ _)))
theorem jJv.l3 : Lens jJv.rep (Rep.slice jJf) 3 (fun x => x.Halves) (fun x y => { x with Halves := y }) := (Lens.iso _ _ _ _).comp ((Lens.snd _ _).comp ((Lens.snd _ _).comp ((Lens.snd _ _).comp (Lens.fst _ _))))
structure jJ0 where
  Name : Str
  Mass : Int
  X : Int
  Z : Int
  Free : Int
def jJ0.rep : Rep jJ0 := Rep.iso (Rep.prod Rep.str (Rep.prod jJf (Rep.prod jJf (Rep.prod jJf (Rep.prod jJf Rep.unit))))) (fun s => (s.Name, (s.Mass, (s.X, (s.Z, (s.Free, ())))))) (fun t => ⟨t.1, t.2.1, t.2.2.1, t.2.2.2.1, t.2.2.2.2.1⟩) (fun _ => rfl)
def jJ0.ok (y : jJ0) : Prop := gS y.Name ∧ (gI .i64) y.Mass ∧ (gI .i64) y.X ∧ (gI .i64) y.Z ∧ (gI .i64) y.Free ∧ True
theorem jJ0.l0 : Lens jJ0.rep Rep.str 0 (fun x => x.Name) (fun x y => { x with Name := y }) := (Lens.iso _ _ _ _).comp (Lens.fst _ _)
theorem jJ0.l1 : Lens jJ0.rep jJf 1 (fun x => x.Mass) (fun x y => { x with Mass := y }) := (Lens.iso _ _ _ _).comp ((Lens.snd _ _).comp (Lens.fst _ _))
theorem jJ0.l2 : Lens jJ0.rep jJf 2 (fun x => x.X) (fun x y => { x with X := y }) := (Lens.iso _ _ _ _).comp ((Lens.snd _ _).comp ((Lens.snd _ _).comp (Lens.fst _ _)))
theorem jJ0.l3 : Lens jJ0.rep jJf 3 (fun x => x.Z) (fun x y => { x with Z := y }) := (Lens.iso _ _ _ _).comp ((Lens.snd _ _).comp ((Lens.snd _ _).comp ((Lens.snd _ _).comp (Lens.fst _ _))))
theorem jJ0.l4 : Lens jJ0.rep jJf 4 (fun x => x.Free) (fun x y => { x with Free := y }) := (Lens.iso _ _ _ _).comp ((Lens.snd _ _).comp ((Lens.snd _ _).comp ((Lens.snd _ _).comp ((Lens.snd _ _).comp (Lens.fst _ _)))))
def jJ0.eqb (x y : jJ0) : Bool := ((x.Name == y.Name) && ((x.Mass == y.Mass) && ((x.X == y.X) && ((x.Z == y.Z) && ((x.Free == y.Free) && true)))))
structure jJp where
  Name : Str
  Length : Int
  Stations : (List jJv)
  Light : jJ0
  Items : (List jJ0)
def jJp.rep : Rep jJp := Rep.iso (Rep.prod Rep.str (Rep.prod jJf (Rep.prod (Rep.slice jJv.rep) (Rep.prod jJ0.rep (Rep.prod (Rep.slice jJ0.rep) Rep.unit))))) (fun s => (s.Name, (s.Length, (s.Stations, (s.Light, (s.Items, ())))))) (fun t => ⟨t.1, t.2.1, t.2.2.1, t.2.2.2.1, t.2.2.2.2.1⟩) (fun _ => rfl)
def jJp.ok (y : jJp) : Prop := gS y.Name ∧ (gI .i64) y.Length ∧ (gL jJv.ok) y.Stations ∧ jJ0.ok y.Light ∧ (gL jJ0.ok) y.Items ∧ True
theorem jJp.l0 : Lens jJp.rep Rep.str 0 (fun x => x.Name) (fun x y => { x with Name := y }) := (Lens.iso _ _ _ _).comp (Lens.fst _ _)
theorem jJp.l1 : Lens jJp.rep jJf 1 (fun x => x.Length) (fun x y => { x with Length := y }) := (Lens.iso _ _ _ _).comp ((Lens.snd _ _).comp (Lens.fst _ _))
theorem jJp.l2 : Lens jJp.rep (Rep.slice jJv.rep) 2 (fun x => x.Stations) (fun x y => { x with Stations := y }) := (Lens.iso _ _ _ _).comp ((Lens.snd _ _).comp ((Lens.snd _ _).comp (Lens.fst _ _)))
theorem jJp.l3 : Lens jJp.rep jJ0.rep 3 (fun x => x.Light) (fun x y => { x with Light := y }) := (Lens.iso _ _ _ _).comp ((Lens.snd _ _).comp ((Lens.snd _ _).comp ((Lens.snd _ _).comp (Lens.fst _ _))))
theorem jJp.l4 : Lens jJp.rep (Rep.slice jJ0.rep) 8 (fun x => x.Items) (fun x y => { x with Items := y }) := (Lens.iso _ _ _ _).comp ((Lens.snd _ _).comp ((Lens.snd _ _).comp ((Lens.snd _ _).comp ((Lens.snd _ _).comp (Lens.fst _ _)))))
structure jXv where
  Neg : Bool
  Limbs : (List Int)
def jXv.rep : Rep jXv := Rep.iso (Rep.prod Rep.bool (Rep.prod (Rep.slice jJy) Rep.unit)) (fun s => (s.Neg, (s.Limbs, ()))) (fun t => ⟨t.1, t.2.1⟩) (fun _ => rfl)
def jXv.ok (y : jXv) : Prop := (fun _ => True) y.Neg ∧ (gL (gI .u16)) y.Limbs ∧ True
theorem jXv.l0 : Lens jXv.rep Rep.bool 0 (fun x => x.Neg) (fun x y => { x with Neg := y }) := (Lens.iso _ _ _ _).comp (Lens.fst _ _)
theorem jXv.l1 : Lens jXv.rep (Rep.slice jJy) 1 (fun x => x.Limbs) (fun x y => { x with Limbs := y }) := (Lens.iso _ _ _ _).comp ((Lens.snd _ _).comp (Lens.fst _ _))
structure jQe where
  Num : jXv
  Den : jXv
def jQe.rep : Rep jQe := Rep.iso (Rep.prod jXv.rep (Rep.prod jXv.rep Rep.unit)) (fun s => (s.Num, (s.Den, ()))) (fun t => ⟨t.1, t.2.1⟩) (fun _ => rfl)
def jQe.ok (y : jQe) : Prop := jXv.ok y.Num ∧ jXv.ok y.Den ∧ True
theorem jQe.l0 : Lens jQe.rep jXv.rep 0 (fun x => x.Num) (fun x y => { x with Num := y }) := (Lens.iso _ _ _ _).comp (Lens.fst _ _)
theorem jQe.l1 : Lens jQe.rep jXv.rep 2 (fun x => x.Den) (fun x y => { x with Den := y }) := (Lens.iso _ _ _ _).comp ((Lens.snd _ _).comp (Lens.fst _ _))
structure jZk where
  Sink : jQe
  Slope : jQe
def jZk.rep : Rep jZk := Rep.iso (Rep.prod jQe.rep (Rep.prod jQe.rep Rep.unit)) (fun s => (s.Sink, (s.Slope, ()))) (fun t => ⟨t.1, t.2.1⟩) (fun _ => rfl)
def jZk.ok (y : jZk) : Prop := jQe.ok y.Sink ∧ jQe.ok y.Slope ∧ True
theorem jZk.l0 : Lens jZk.rep jQe.rep 0 (fun x => x.Sink) (fun x y => { x with Sink := y }) := (Lens.iso _ _ _ _).comp (Lens.fst _ _)
theorem jZk.l1 : Lens jZk.rep jQe.rep 4 (fun x => x.Slope) (fun x y => { x with Slope := y }) := (Lens.iso _ _ _ _).comp ((Lens.snd _ _).comp (Lens.fst _ _))
structure jJk where
  Volume : jQe
  Displacement : jQe
  X : jQe
  Z : jQe
  Area : jQe
  Float : jQe
  Cross : jQe
  Long : jQe
  Meta : jQe
def jJk.rep : Rep jJk := Rep.iso (Rep.prod jQe.rep (Rep.prod jQe.rep (Rep.prod jQe.rep (Rep.prod jQe.rep (Rep.prod jQe.rep (Rep.prod jQe.rep (Rep.prod jQe.rep (Rep.prod jQe.rep (Rep.prod jQe.rep Rep.unit))))))))) (fun s => (s.Volume, (s.Displacement, (s.X, (s.Z, (s.Area, (s.Float, (s.Cross, (s.Long, (s.Meta, ())))))))))) (fun t => ⟨t.1, t.2.1, t.2.2.1, t.2.2.2.1, t.2.2.2.2.1, t.2.2.2.2.2.1, t.2.2.2.2.2.2.1, t.2.2.2.2.2.2.2.1, t.2.2.2.2.2.2.2.2.1⟩) (fun _ => rfl)
def jJk.ok (y : jJk) : Prop := jQe.ok y.Volume ∧ jQe.ok y.Displacement ∧ jQe.ok y.X ∧ jQe.ok y.Z ∧ jQe.ok y.Area ∧ jQe.ok y.Float ∧ jQe.ok y.Cross ∧ jQe.ok y.Long ∧ jQe.ok y.Meta ∧ True
theorem jJk.l0 : Lens jJk.rep jQe.rep 0 (fun x => x.Volume) (fun x y => { x with Volume := y }) := (Lens.iso _ _ _ _).comp (Lens.fst _ _)
theorem jJk.l1 : Lens jJk.rep jQe.rep 4 (fun x => x.Displacement) (fun x y => { x with Displacement := y }) := (Lens.iso _ _ _ _).comp ((Lens.snd _ _).comp (Lens.fst _ _))
theorem jJk.l2 : Lens jJk.rep jQe.rep 8 (fun x => x.X) (fun x y => { x with X := y }) := (Lens.iso _ _ _ _).comp ((Lens.snd _ _).comp ((Lens.snd _ _).comp (Lens.fst _ _)))
theorem jJk.l3 : Lens jJk.rep jQe.rep 12 (fun x => x.Z) (fun x y => { x with Z := y }) := (Lens.iso _ _ _ _).comp ((Lens.snd _ _).comp ((Lens.snd _ _).comp ((Lens.snd _ _).comp (Lens.fst _ _))))
theorem jJk.l4 : Lens jJk.rep jQe.rep 16 (fun x => x.Area) (fun x y => { x with Area := y }) := (Lens.iso _ _ _ _).comp ((Lens.snd _ _).comp ((Lens.snd _ _).comp ((Lens.snd _ _).comp ((Lens.snd _ _).comp (Lens.fst _ _)))))
theorem jJk.l5 : Lens jJk.rep jQe.rep 20 (fun x => x.Float) (fun x y => { x with Float := y }) := (Lens.iso _ _ _ _).comp ((Lens.snd _ _).comp ((Lens.snd _ _).comp ((Lens.snd _ _).comp ((Lens.snd _ _).comp ((Lens.snd _ _).comp (Lens.fst _ _))))))
theorem jJk.l6 : Lens jJk.rep jQe.rep 24 (fun x => x.Cross) (fun x y => { x with Cross := y }) := (Lens.iso _ _ _ _).comp ((Lens.snd _ _).comp ((Lens.snd _ _).comp ((Lens.snd _ _).comp ((Lens.snd _ _).comp ((Lens.snd _ _).comp ((Lens.snd _ _).comp (Lens.fst _ _)))))))
theorem jJk.l7 : Lens jJk.rep jQe.rep 28 (fun x => x.Long) (fun x y => { x with Long := y }) := (Lens.iso _ _ _ _).comp ((Lens.snd _ _).comp ((Lens.snd _ _).comp ((Lens.snd _ _).comp ((Lens.snd _ _).comp ((Lens.snd _ _).comp ((Lens.snd _ _).comp ((Lens.snd _ _).comp (Lens.fst _ _))))))))
theorem jJk.l8 : Lens jJk.rep jQe.rep 32 (fun x => x.Meta) (fun x y => { x with Meta := y }) := (Lens.iso _ _ _ _).comp ((Lens.snd _ _).comp ((Lens.snd _ _).comp ((Lens.snd _ _).comp ((Lens.snd _ _).comp ((Lens.snd _ _).comp ((Lens.snd _ _).comp ((Lens.snd _ _).comp ((Lens.snd _ _).comp (Lens.fst _ _)))))))))
structure jJs where
  area : jQe
  moment : jQe
def jJs.rep : Rep jJs := Rep.iso (Rep.prod jQe.rep (Rep.prod jQe.rep Rep.unit)) (fun s => (s.area, (s.moment, ()))) (fun t => ⟨t.1, t.2.1⟩) (fun _ => rfl)
def jJs.ok (y : jJs) : Prop := jQe.ok y.area ∧ jQe.ok y.moment ∧ True
theorem jJs.l0 : Lens jJs.rep jQe.rep 0 (fun x => x.area) (fun x y => { x with area := y }) := (Lens.iso _ _ _ _).comp (Lens.fst _ _)
theorem jJs.l1 : Lens jJs.rep jQe.rep 4 (fun x => x.moment) (fun x y => { x with moment := y }) := (Lens.iso _ _ _ _).comp ((Lens.snd _ _).comp (Lens.fst _ _))
structure jYw where
  Density : Int
  Upthrust : jQe
def jYw.rep : Rep jYw := Rep.iso (Rep.prod jJf (Rep.prod jQe.rep Rep.unit)) (fun s => (s.Density, (s.Upthrust, ()))) (fun t => ⟨t.1, t.2.1⟩) (fun _ => rfl)
def jYw.ok (y : jYw) : Prop := (gI .i64) y.Density ∧ jQe.ok y.Upthrust ∧ True
theorem jYw.l0 : Lens jYw.rep jJf 0 (fun x => x.Density) (fun x y => { x with Density := y }) := (Lens.iso _ _ _ _).comp (Lens.fst _ _)
theorem jYw.l1 : Lens jYw.rep jQe.rep 1 (fun x => x.Upthrust) (fun x y => { x with Upthrust := y }) := (Lens.iso _ _ _ _).comp ((Lens.snd _ _).comp (Lens.fst _ _))
structure jXr where
  KM : jQe
  KG : jQe
  GM : jQe
  Other : jQe
def jXr.rep : Rep jXr := Rep.iso (Rep.prod jQe.rep (Rep.prod jQe.rep (Rep.prod jQe.rep (Rep.prod jQe.rep Rep.unit)))) (fun s => (s.KM, (s.KG, (s.GM, (s.Other, ()))))) (fun t => ⟨t.1, t.2.1, t.2.2.1, t.2.2.2.1⟩) (fun _ => rfl)
def jXr.ok (y : jXr) : Prop := jQe.ok y.KM ∧ jQe.ok y.KG ∧ jQe.ok y.GM ∧ jQe.ok y.Other ∧ True
theorem jXr.l0 : Lens jXr.rep jQe.rep 0 (fun x => x.KM) (fun x y => { x with KM := y }) := (Lens.iso _ _ _ _).comp (Lens.fst _ _)
theorem jXr.l1 : Lens jXr.rep jQe.rep 4 (fun x => x.KG) (fun x y => { x with KG := y }) := (Lens.iso _ _ _ _).comp ((Lens.snd _ _).comp (Lens.fst _ _))
theorem jXr.l2 : Lens jXr.rep jQe.rep 8 (fun x => x.GM) (fun x y => { x with GM := y }) := (Lens.iso _ _ _ _).comp ((Lens.snd _ _).comp ((Lens.snd _ _).comp (Lens.fst _ _)))
theorem jXr.l3 : Lens jXr.rep jQe.rep 12 (fun x => x.Other) (fun x y => { x with Other := y }) := (Lens.iso _ _ _ _).comp ((Lens.snd _ _).comp ((Lens.snd _ _).comp ((Lens.snd _ _).comp (Lens.fst _ _))))
structure jQd where
  Mass : Int
  X : jQe
  Z : jQe
  Free : Int
def jQd.rep : Rep jQd := Rep.iso (Rep.prod jJf (Rep.prod jQe.rep (Rep.prod jQe.rep (Rep.prod jJf Rep.unit)))) (fun s => (s.Mass, (s.X, (s.Z, (s.Free, ()))))) (fun t => ⟨t.1, t.2.1, t.2.2.1, t.2.2.2.1⟩) (fun _ => rfl)
def jQd.ok (y : jQd) : Prop := (gI .i64) y.Mass ∧ jQe.ok y.X ∧ jQe.ok y.Z ∧ (gI .i64) y.Free ∧ True
theorem jQd.l0 : Lens jQd.rep jJf 0 (fun x => x.Mass) (fun x y => { x with Mass := y }) := (Lens.iso _ _ _ _).comp (Lens.fst _ _)
theorem jQd.l1 : Lens jQd.rep jQe.rep 1 (fun x => x.X) (fun x y => { x with X := y }) := (Lens.iso _ _ _ _).comp ((Lens.snd _ _).comp (Lens.fst _ _))
theorem jQd.l2 : Lens jQd.rep jQe.rep 5 (fun x => x.Z) (fun x y => { x with Z := y }) := (Lens.iso _ _ _ _).comp ((Lens.snd _ _).comp ((Lens.snd _ _).comp (Lens.fst _ _)))
theorem jQd.l3 : Lens jQd.rep jJf 9 (fun x => x.Free) (fun x y => { x with Free := y }) := (Lens.iso _ _ _ _).comp ((Lens.snd _ _).comp ((Lens.snd _ _).comp ((Lens.snd _ _).comp (Lens.fst _ _))))
structure jJn where
  word : Str
  name : Str
  numbers : (List Int)
def jJn.rep : Rep jJn := Rep.iso (Rep.prod Rep.str (Rep.prod Rep.str (Rep.prod (Rep.slice jJf) Rep.unit))) (fun s => (s.word, (s.name, (s.numbers, ())))) (fun t => ⟨t.1, t.2.1, t.2.2.1⟩) (fun _ => rfl)
def jJn.ok (y : jJn) : Prop := gS y.word ∧ gS y.name ∧ (gL (gI .i64)) y.numbers ∧ True
theorem jJn.l0 : Lens jJn.rep Rep.str 0 (fun x => x.word) (fun x y => { x with word := y }) := (Lens.iso _ _ _ _).comp (Lens.fst _ _)
theorem jJn.l1 : Lens jJn.rep Rep.str 1 (fun x => x.name) (fun x y => { x with name := y }) := (Lens.iso _ _ _ _).comp ((Lens.snd _ _).comp (Lens.fst _ _))
theorem jJn.l2 : Lens jJn.rep (Rep.slice jJf) 2 (fun x => x.numbers) (fun x y => { x with numbers := y }) := (Lens.iso _ _ _ _).comp ((Lens.snd _ _).comp ((Lens.snd _ _).comp (Lens.fst _ _)))
structure jVq where
  line : Int
def jVq.rep : Rep jVq := Rep.iso (Rep.prod jJf Rep.unit) (fun s => (s.line, ())) (fun t => ⟨t.1⟩) (fun _ => rfl)
def jVq.ok (y : jVq) : Prop := (gI .i64) y.line ∧ True
theorem jVq.l0 : Lens jVq.rep jJf 0 (fun x => x.line) (fun x y => { x with line := y }) := (Lens.iso _ _ _ _).comp (Lens.fst _ _)
abbrev zZ : jXv := (⟨false, []⟩ : jXv)
abbrev zQ : jQe := (⟨(⟨false, []⟩ : jXv), (⟨false, []⟩ : jXv)⟩ : jQe)
abbrev jJj := jJv.rep
abbrev jJm := jJ0.rep
abbrev jJl := jJp.rep
abbrev jXb := jXv.rep
abbrev jJh := jQe.rep
abbrev jQa := jZk.rep
abbrev jQg := jJk.rep
abbrev jJ7 := jJs.rep
abbrev jDq := jYw.rep
abbrev jVn := jXr.rep
abbrev jX1 := jQd.rep
abbrev jJ3 := jJn.rep
abbrev jK7 := jVq.rep
end Go.KB
