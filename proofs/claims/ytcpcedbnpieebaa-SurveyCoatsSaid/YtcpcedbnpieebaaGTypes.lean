/- Go's types as Lean types. Printed by a program. No condition. -/
import Derived.Test.YtcpcedbnpieebaaKNil
namespace Go.KB
abbrev r_i8 : Rep Int := Rep.int .i8
abbrev r_i16 : Rep Int := Rep.int .i16
abbrev r_i32 : Rep Int := Rep.int .i32
abbrev r_i64 : Rep Int := Rep.int .i64
abbrev r_u8 : Rep Int := Rep.int .u8
abbrev r_u16 : Rep Int := Rep.int .u16
abbrev r_u32 : Rep Int := Rep.int .u32
abbrev r_u64 : Rep Int := Rep.int .u64
structure GInt where
  Neg : Bool
  Limbs : (List Int)
def GInt.rep : Rep GInt := Rep.iso (Rep.prod Rep.bool (Rep.prod (Rep.slice r_u16) Rep.unit)) (fun s => (s.Neg, (s.Limbs, ()))) (fun t => ⟨t.1, t.2.1⟩) (fun _ => rfl)
def GInt.ok (y : GInt) : Prop := (fun _ => True) y.Neg ∧ (gL (gI .u16)) y.Limbs ∧ True
theorem GInt.l0 : Lens GInt.rep Rep.bool 0 (fun x => x.Neg) (fun x y => { x with Neg := y }) := (Lens.iso _ _ _ _).comp (Lens.fst _ _)
theorem GInt.l1 : Lens GInt.rep (Rep.slice r_u16) 1 (fun x => x.Limbs) (fun x y => { x with Limbs := y }) := (Lens.iso _ _ _ _).comp ((Lens.snd _ _).comp (Lens.fst _ _))
structure GRat where
  Num : GInt
  Den : GInt
def GRat.rep : Rep GRat := Rep.iso (Rep.prod GInt.rep (Rep.prod GInt.rep Rep.unit)) (fun s => (s.Num, (s.Den, ()))) (fun t => ⟨t.1, t.2.1⟩) (fun _ => rfl)
def GRat.ok (y : GRat) : Prop := GInt.ok y.Num ∧ GInt.ok y.Den ∧ True
theorem GRat.l0 : Lens GRat.rep GInt.rep 0 (fun x => x.Num) (fun x y => { x with Num := y }) := (Lens.iso _ _ _ _).comp (Lens.fst _ _)
theorem GRat.l1 : Lens GRat.rep GInt.rep 2 (fun x => x.Den) (fun x y => { x with Den := y }) := (Lens.iso _ _ _ _).comp ((Lens.snd _ _).comp (Lens.fst _ _))
structure GCoat where
  Name : Str
  Nominal : Int
  Most : Int
  Soonest : Int
  Latest : Int
def GCoat.rep : Rep GCoat := Rep.iso (Rep.prod Rep.str (Rep.prod r_i64 (Rep.prod r_i64 (Rep.prod r_i64 (Rep.prod r_i64 Rep.unit))))) (fun s => (s.Name, (s.Nominal, (s.Most, (s.Soonest, (s.Latest, ())))))) (fun t => ⟨t.1, t.2.1, t.2.2.1, t.2.2.2.1, t.2.2.2.2.1⟩) (fun _ => rfl)
def GCoat.ok (y : GCoat) : Prop := gS y.Name ∧ (gI .i64) y.Nominal ∧ (gI .i64) y.Most ∧ (gI .i64) y.Soonest ∧ (gI .i64) y.Latest ∧ True
theorem GCoat.l0 : Lens GCoat.rep Rep.str 0 (fun x => x.Name) (fun x y => { x with Name := y }) := (Lens.iso _ _ _ _).comp (Lens.fst _ _)
theorem GCoat.l1 : Lens GCoat.rep r_i64 1 (fun x => x.Nominal) (fun x y => { x with Nominal := y }) := (Lens.iso _ _ _ _).comp ((Lens.snd _ _).comp (Lens.fst _ _))
theorem GCoat.l2 : Lens GCoat.rep r_i64 2 (fun x => x.Most) (fun x y => { x with Most := y }) := (Lens.iso _ _ _ _).comp ((Lens.snd _ _).comp ((Lens.snd _ _).comp (Lens.fst _ _)))
theorem GCoat.l3 : Lens GCoat.rep r_i64 3 (fun x => x.Soonest) (fun x y => { x with Soonest := y }) := (Lens.iso _ _ _ _).comp ((Lens.snd _ _).comp ((Lens.snd _ _).comp ((Lens.snd _ _).comp (Lens.fst _ _))))
theorem GCoat.l4 : Lens GCoat.rep r_i64 4 (fun x => x.Latest) (fun x y => { x with Latest := y }) := (Lens.iso _ _ _ _).comp ((Lens.snd _ _).comp ((Lens.snd _ _).comp ((Lens.snd _ _).comp ((Lens.snd _ _).comp (Lens.fst _ _)))))
structure GRun where
  Start : Int
  Seconds : Int
  Metres : Int
  Back : Bool
def GRun.rep : Rep GRun := Rep.iso (Rep.prod r_i64 (Rep.prod r_i64 (Rep.prod r_i64 (Rep.prod Rep.bool Rep.unit)))) (fun s => (s.Start, (s.Seconds, (s.Metres, (s.Back, ()))))) (fun t => ⟨t.1, t.2.1, t.2.2.1, t.2.2.2.1⟩) (fun _ => rfl)
def GRun.ok (y : GRun) : Prop := (gI .i64) y.Start ∧ (gI .i64) y.Seconds ∧ (gI .i64) y.Metres ∧ (fun _ => True) y.Back ∧ True
theorem GRun.l0 : Lens GRun.rep r_i64 0 (fun x => x.Start) (fun x y => { x with Start := y }) := (Lens.iso _ _ _ _).comp (Lens.fst _ _)
theorem GRun.l1 : Lens GRun.rep r_i64 1 (fun x => x.Seconds) (fun x y => { x with Seconds := y }) := (Lens.iso _ _ _ _).comp ((Lens.snd _ _).comp (Lens.fst _ _))
theorem GRun.l2 : Lens GRun.rep r_i64 2 (fun x => x.Metres) (fun x y => { x with Metres := y }) := (Lens.iso _ _ _ _).comp ((Lens.snd _ _).comp ((Lens.snd _ _).comp (Lens.fst _ _)))
theorem GRun.l3 : Lens GRun.rep Rep.bool 3 (fun x => x.Back) (fun x y => { x with Back := y }) := (Lens.iso _ _ _ _).comp ((Lens.snd _ _).comp ((Lens.snd _ _).comp ((Lens.snd _ _).comp (Lens.fst _ _))))
structure GPanel where
  Name : Str
  Rows : Int
  Cols : Int
  Built : Int
  Readings : (List Int)
def GPanel.rep : Rep GPanel := Rep.iso (Rep.prod Rep.str (Rep.prod r_i64 (Rep.prod r_i64 (Rep.prod r_i64 (Rep.prod (Rep.slice r_i64) Rep.unit))))) (fun s => (s.Name, (s.Rows, (s.Cols, (s.Built, (s.Readings, ())))))) (fun t => ⟨t.1, t.2.1, t.2.2.1, t.2.2.2.1, t.2.2.2.2.1⟩) (fun _ => rfl)
def GPanel.ok (y : GPanel) : Prop := gS y.Name ∧ (gI .i64) y.Rows ∧ (gI .i64) y.Cols ∧ (gI .i64) y.Built ∧ (gL (gI .i64)) y.Readings ∧ True
theorem GPanel.l0 : Lens GPanel.rep Rep.str 0 (fun x => x.Name) (fun x y => { x with Name := y }) := (Lens.iso _ _ _ _).comp (Lens.fst _ _)
theorem GPanel.l1 : Lens GPanel.rep r_i64 1 (fun x => x.Rows) (fun x y => { x with Rows := y }) := (Lens.iso _ _ _ _).comp ((Lens.snd _ _).comp (Lens.fst _ _))
theorem GPanel.l2 : Lens GPanel.rep r_i64 2 (fun x => x.Cols) (fun x y => { x with Cols := y }) := (Lens.iso _ _ _ _).comp ((Lens.snd _ _).comp ((Lens.snd _ _).comp (Lens.fst _ _)))
theorem GPanel.l3 : Lens GPanel.rep r_i64 3 (fun x => x.Built) (fun x y => { x with Built := y }) := (Lens.iso _ _ _ _).comp ((Lens.snd _ _).comp ((Lens.snd _ _).comp ((Lens.snd _ _).comp (Lens.fst _ _))))
theorem GPanel.l4 : Lens GPanel.rep (Rep.slice r_i64) 4 (fun x => x.Readings) (fun x y => { x with Readings := y }) := (Lens.iso _ _ _ _).comp ((Lens.snd _ _).comp ((Lens.snd _ _).comp ((Lens.snd _ _).comp ((Lens.snd _ _).comp (Lens.fst _ _)))))
structure GRule where
  Substantial : Int
  Renew : Int
def GRule.rep : Rep GRule := Rep.iso (Rep.prod r_i64 (Rep.prod r_i64 Rep.unit)) (fun s => (s.Substantial, (s.Renew, ()))) (fun t => ⟨t.1, t.2.1⟩) (fun _ => rfl)
def GRule.ok (y : GRule) : Prop := (gI .i64) y.Substantial ∧ (gI .i64) y.Renew ∧ True
theorem GRule.l0 : Lens GRule.rep r_i64 0 (fun x => x.Substantial) (fun x y => { x with Substantial := y }) := (Lens.iso _ _ _ _).comp (Lens.fst _ _)
theorem GRule.l1 : Lens GRule.rep r_i64 1 (fun x => x.Renew) (fun x y => { x with Renew := y }) := (Lens.iso _ _ _ _).comp ((Lens.snd _ _).comp (Lens.fst _ _))
structure GPainting where
  Coat : Str
  Start : Int
  Readings : (List Int)
def GPainting.rep : Rep GPainting := Rep.iso (Rep.prod Rep.str (Rep.prod r_i64 (Rep.prod (Rep.slice r_i64) Rep.unit))) (fun s => (s.Coat, (s.Start, (s.Readings, ())))) (fun t => ⟨t.1, t.2.1, t.2.2.1⟩) (fun _ => rfl)
def GPainting.ok (y : GPainting) : Prop := gS y.Coat ∧ (gI .i64) y.Start ∧ (gL (gI .i64)) y.Readings ∧ True
theorem GPainting.l0 : Lens GPainting.rep Rep.str 0 (fun x => x.Coat) (fun x y => { x with Coat := y }) := (Lens.iso _ _ _ _).comp (Lens.fst _ _)
theorem GPainting.l1 : Lens GPainting.rep r_i64 1 (fun x => x.Start) (fun x y => { x with Start := y }) := (Lens.iso _ _ _ _).comp ((Lens.snd _ _).comp (Lens.fst _ _))
theorem GPainting.l2 : Lens GPainting.rep (Rep.slice r_i64) 2 (fun x => x.Readings) (fun x y => { x with Readings := y }) := (Lens.iso _ _ _ _).comp ((Lens.snd _ _).comp ((Lens.snd _ _).comp (Lens.fst _ _)))
end Go.KB
