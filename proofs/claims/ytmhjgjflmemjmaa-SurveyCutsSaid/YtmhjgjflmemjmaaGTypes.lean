/- Go's types as Lean types. Printed by a program. No condition. -/
import Derived.Test.YtmhjgjflmemjmaaKRec
namespace Go.KB
abbrev r_i8 : Rep Int := Rep.int .i8
abbrev r_i16 : Rep Int := Rep.int .i16
abbrev r_i32 : Rep Int := Rep.int .i32
abbrev r_i64 : Rep Int := Rep.int .i64
abbrev r_u8 : Rep Int := Rep.int .u8
abbrev r_u16 : Rep Int := Rep.int .u16
abbrev r_u32 : Rep Int := Rep.int .u32
abbrev r_u64 : Rep Int := Rep.int .u64
structure GPlate where
  W : Int
  H : Int
  Price : Int
def GPlate.rep : Rep GPlate := Rep.iso (Rep.prod r_i64 (Rep.prod r_i64 (Rep.prod r_i64 Rep.unit))) (fun s => (s.W, (s.H, (s.Price, ())))) (fun t => ⟨t.1, t.2.1, t.2.2.1⟩) (fun _ => rfl)
def GPlate.ok (y : GPlate) : Prop := (gI .i64) y.W ∧ (gI .i64) y.H ∧ (gI .i64) y.Price ∧ True
theorem GPlate.l0 : Lens GPlate.rep r_i64 0 (fun x => x.W) (fun x y => { x with W := y }) := (Lens.iso _ _ _ _).comp (Lens.fst _ _)
theorem GPlate.l1 : Lens GPlate.rep r_i64 1 (fun x => x.H) (fun x y => { x with H := y }) := (Lens.iso _ _ _ _).comp ((Lens.snd _ _).comp (Lens.fst _ _))
theorem GPlate.l2 : Lens GPlate.rep r_i64 2 (fun x => x.Price) (fun x y => { x with Price := y }) := (Lens.iso _ _ _ _).comp ((Lens.snd _ _).comp ((Lens.snd _ _).comp (Lens.fst _ _)))
structure GCut where
  Piece : Int
  Turned : Bool
  Across : Bool
  At : Int
  First : (List GCut)
  Rest : (List GCut)
def GCut.repF (q : Rep (List GCut)) : Rep GCut := Rep.iso (Rep.prod r_i64 (Rep.prod Rep.bool (Rep.prod Rep.bool (Rep.prod r_i64 (Rep.prod q (Rep.prod q Rep.unit)))))) (fun s => (s.Piece, (s.Turned, (s.Across, (s.At, (s.First, (s.Rest, ()))))))) (fun t => ⟨t.1, t.2.1, t.2.2.1, t.2.2.2.1, t.2.2.2.2.1, t.2.2.2.2.2.1⟩) (fun _ => rfl)
theorem GCut.recOk : RecOk GCut.repF := ⟨fun _ => rfl, fun _ => rfl, fun _ => rfl, fun _ => rfl, fun _ _ hl => Rep.le_iso (Rep.le_prod (Rep.le_refl _) (Rep.le_prod (Rep.le_refl _) (Rep.le_prod (Rep.le_refl _) (Rep.le_prod (Rep.le_refl _) (Rep.le_prod hl (Rep.le_prod hl (Rep.le_refl _))))))), fun _ _ c => Chain.iso ((Chain.const _).prod ((Chain.const _).prod ((Chain.const _).prod ((Chain.const _).prod (c.prod (c.prod (Chain.const _))))))) _ _ _⟩
def GCut.rep : Rep GCut := Rep.fix GCut.repF GCut.recOk
def GCut.ok (_ : GCut) : Prop := True
theorem GCut.l0 : Lens GCut.rep r_i64 0 (fun x => x.Piece) (fun x y => { x with Piece := y }) := Lens.fix GCut.recOk ((Lens.iso _ _ _ _).comp (Lens.fst _ _))
theorem GCut.l1 : Lens GCut.rep Rep.bool 1 (fun x => x.Turned) (fun x y => { x with Turned := y }) := Lens.fix GCut.recOk ((Lens.iso _ _ _ _).comp ((Lens.snd _ _).comp (Lens.fst _ _)))
theorem GCut.l2 : Lens GCut.rep Rep.bool 2 (fun x => x.Across) (fun x y => { x with Across := y }) := Lens.fix GCut.recOk ((Lens.iso _ _ _ _).comp ((Lens.snd _ _).comp ((Lens.snd _ _).comp (Lens.fst _ _))))
theorem GCut.l3 : Lens GCut.rep r_i64 3 (fun x => x.At) (fun x y => { x with At := y }) := Lens.fix GCut.recOk ((Lens.iso _ _ _ _).comp ((Lens.snd _ _).comp ((Lens.snd _ _).comp ((Lens.snd _ _).comp (Lens.fst _ _)))))
theorem GCut.l4 : Lens GCut.rep (Rep.slice GCut.rep) 4 (fun x => x.First) (fun x y => { x with First := y }) := Lens.fix GCut.recOk ((Lens.iso _ _ _ _).comp ((Lens.snd _ _).comp ((Lens.snd _ _).comp ((Lens.snd _ _).comp ((Lens.snd _ _).comp (Lens.fst _ _))))))
theorem GCut.l5 : Lens GCut.rep (Rep.slice GCut.rep) 5 (fun x => x.Rest) (fun x y => { x with Rest := y }) := Lens.fix GCut.recOk ((Lens.iso _ _ _ _).comp ((Lens.snd _ _).comp ((Lens.snd _ _).comp ((Lens.snd _ _).comp ((Lens.snd _ _).comp ((Lens.snd _ _).comp (Lens.fst _ _)))))))
structure GRun where
  Start : Int
  Seconds : Int
  Metres : Int
  Back : Bool
def GRun.rep : Rep GRun := Rep.iso (Rep.prod r_i64 (Rep.prod r_i64 (Rep.prod r_i64 (Rep.prod Rep.bool Rep.unit)))) (fun s => (s.Start, (s.Seconds, (s.Metres, (s.Back, ()))))) (fun t => ⟨t.1, t.2.1, t.2.2.1, t.2.2.2.1⟩) (fun _ => rfl)
def GRun.ok (y : GRun) : Prop := (gI .i64) y.Start ∧ (gI .i64) y.Seconds ∧ (gI .i64) y.Metres ∧ (fun _ => True) y.Back ∧ True
theorem GRun.l0 : Lens GRun.rep r_i64 0 (fun x => x.Start) (fun x y => { x with Start := y }) := (Lens.iso _ _ _ _).comp (Lens.fst _ _)
theorem GRun.l1 : Lens GRun.rep r_i64 1 (fun x => x.Seconds) (fun x y => { x with Seconds := y }) := (Lens.iso _ _ _ _).comp ((Lens.snd _ _).comp (Lens.fst _ _))
theorem GRun.l2 : Lens GRun.rep r_i64 2 (fun x => x.Metres) (fun x y => { x with Metres := y }) := (Lens.iso _ _ _ _).comp ((Lens.snd _ _).comp ((Lens.snd _ _).comp (Lens.fst _ _)))
theorem GRun.l3 : Lens GRun.rep Rep.bool 3 (fun x => x.Back) (fun x y => { x with Back := y }) := (Lens.iso _ _ _ _).comp ((Lens.snd _ _).comp ((Lens.snd _ _).comp ((Lens.snd _ _).comp (Lens.fst _ _))))
structure GInt where
  Neg : Bool
  Limbs : (List Int)
def GInt.rep : Rep GInt := Rep.iso (Rep.prod Rep.bool (Rep.prod (Rep.slice r_u16) Rep.unit)) (fun s => (s.Neg, (s.Limbs, ()))) (fun t => ⟨t.1, t.2.1⟩) (fun _ => rfl)
def GInt.ok (y : GInt) : Prop := (fun _ => True) y.Neg ∧ (gL (gI .u16)) y.Limbs ∧ True
theorem GInt.l0 : Lens GInt.rep Rep.bool 0 (fun x => x.Neg) (fun x y => { x with Neg := y }) := (Lens.iso _ _ _ _).comp (Lens.fst _ _)
theorem GInt.l1 : Lens GInt.rep (Rep.slice r_u16) 1 (fun x => x.Limbs) (fun x y => { x with Limbs := y }) := (Lens.iso _ _ _ _).comp ((Lens.snd _ _).comp (Lens.fst _ _))
structure GRat where
  Num : GInt
  Den : GInt
def GRat.rep : Rep GRat := Rep.iso (Rep.prod GInt.rep (Rep.prod GInt.rep Rep.unit)) (fun s => (s.Num, (s.Den, ()))) (fun t => ⟨t.1, t.2.1⟩) (fun _ => rfl)
def GRat.ok (y : GRat) : Prop := GInt.ok y.Num ∧ GInt.ok y.Den ∧ True
theorem GRat.l0 : Lens GRat.rep GInt.rep 0 (fun x => x.Num) (fun x y => { x with Num := y }) := (Lens.iso _ _ _ _).comp (Lens.fst _ _)
theorem GRat.l1 : Lens GRat.rep GInt.rep 2 (fun x => x.Den) (fun x y => { x with Den := y }) := (Lens.iso _ _ _ _).comp ((Lens.snd _ _).comp (Lens.fst _ _))
structure GPanel where
  Name : Str
  Rows : Int
  Cols : Int
  Built : Int
  Readings : (List Int)
def GPanel.rep : Rep GPanel := Rep.iso (Rep.prod Rep.str (Rep.prod r_i64 (Rep.prod r_i64 (Rep.prod r_i64 (Rep.prod (Rep.slice r_i64) Rep.unit))))) (fun s => (s.Name, (s.Rows, (s.Cols, (s.Built, (s.Readings, ())))))) (fun t => ⟨t.1, t.2.1, t.2.2.1, t.2.2.2.1, t.2.2.2.2.1⟩) (fun _ => rfl)
def GPanel.ok (y : GPanel) : Prop := gS y.Name ∧ (gI .i64) y.Rows ∧ (gI .i64) y.Cols ∧ (gI .i64) y.Built ∧ (gL (gI .i64)) y.Readings ∧ True
theorem GPanel.l0 : Lens GPanel.rep Rep.str 0 (fun x => x.Name) (fun x y => { x with Name := y }) := (Lens.iso _ _ _ _).comp (Lens.fst _ _)
theorem GPanel.l1 : Lens GPanel.rep r_i64 1 (fun x => x.Rows) (fun x y => { x with Rows := y }) := (Lens.iso _ _ _ _).comp ((Lens.snd _ _).comp (Lens.fst _ _))
theorem GPanel.l2 : Lens GPanel.rep r_i64 2 (fun x => x.Cols) (fun x y => { x with Cols := y }) := (Lens.iso _ _ _ _).comp ((Lens.snd _ _).comp ((Lens.snd _ _).comp (Lens.fst _ _)))
theorem GPanel.l3 : Lens GPanel.rep r_i64 3 (fun x => x.Built) (fun x y => { x with Built := y }) := (Lens.iso _ _ _ _).comp ((Lens.snd _ _).comp ((Lens.snd _ _).comp ((Lens.snd _ _).comp (Lens.fst _ _))))
theorem GPanel.l4 : Lens GPanel.rep (Rep.slice r_i64) 4 (fun x => x.Readings) (fun x y => { x with Readings := y }) := (Lens.iso _ _ _ _).comp ((Lens.snd _ _).comp ((Lens.snd _ _).comp ((Lens.snd _ _).comp ((Lens.snd _ _).comp (Lens.fst _ _)))))
structure GRule where
  Substantial : Int
  Renew : Int
def GRule.rep : Rep GRule := Rep.iso (Rep.prod r_i64 (Rep.prod r_i64 Rep.unit)) (fun s => (s.Substantial, (s.Renew, ()))) (fun t => ⟨t.1, t.2.1⟩) (fun _ => rfl)
def GRule.ok (y : GRule) : Prop := (gI .i64) y.Substantial ∧ (gI .i64) y.Renew ∧ True
theorem GRule.l0 : Lens GRule.rep r_i64 0 (fun x => x.Substantial) (fun x y => { x with Substantial := y }) := (Lens.iso _ _ _ _).comp (Lens.fst _ _)
theorem GRule.l1 : Lens GRule.rep r_i64 1 (fun x => x.Renew) (fun x y => { x with Renew := y }) := (Lens.iso _ _ _ _).comp ((Lens.snd _ _).comp (Lens.fst _ _))
structure GRect where
  X : Int
  Y : Int
  W : Int
  H : Int
def GRect.rep : Rep GRect := Rep.iso (Rep.prod r_i64 (Rep.prod r_i64 (Rep.prod r_i64 (Rep.prod r_i64 Rep.unit)))) (fun s => (s.X, (s.Y, (s.W, (s.H, ()))))) (fun t => ⟨t.1, t.2.1, t.2.2.1, t.2.2.2.1⟩) (fun _ => rfl)
def GRect.ok (y : GRect) : Prop := (gI .i64) y.X ∧ (gI .i64) y.Y ∧ (gI .i64) y.W ∧ (gI .i64) y.H ∧ True
theorem GRect.l0 : Lens GRect.rep r_i64 0 (fun x => x.X) (fun x y => { x with X := y }) := (Lens.iso _ _ _ _).comp (Lens.fst _ _)
theorem GRect.l1 : Lens GRect.rep r_i64 1 (fun x => x.Y) (fun x y => { x with Y := y }) := (Lens.iso _ _ _ _).comp ((Lens.snd _ _).comp (Lens.fst _ _))
theorem GRect.l2 : Lens GRect.rep r_i64 2 (fun x => x.W) (fun x y => { x with W := y }) := (Lens.iso _ _ _ _).comp ((Lens.snd _ _).comp ((Lens.snd _ _).comp (Lens.fst _ _)))
theorem GRect.l3 : Lens GRect.rep r_i64 3 (fun x => x.H) (fun x y => { x with H := y }) := (Lens.iso _ _ _ _).comp ((Lens.snd _ _).comp ((Lens.snd _ _).comp ((Lens.snd _ _).comp (Lens.fst _ _))))
def GRect.eqb (x y : GRect) : Bool := ((x.X == y.X) && ((x.Y == y.Y) && ((x.W == y.W) && ((x.H == y.H) && true))))
structure Gsurvey_leaf where
  piece : Int
  turned : Bool
  rect : GRect
def Gsurvey_leaf.rep : Rep Gsurvey_leaf := Rep.iso (Rep.prod r_i64 (Rep.prod Rep.bool (Rep.prod GRect.rep Rep.unit))) (fun s => (s.piece, (s.turned, (s.rect, ())))) (fun t => ⟨t.1, t.2.1, t.2.2.1⟩) (fun _ => rfl)
def Gsurvey_leaf.ok (y : Gsurvey_leaf) : Prop := (gI .i64) y.piece ∧ (fun _ => True) y.turned ∧ GRect.ok y.rect ∧ True
theorem Gsurvey_leaf.l0 : Lens Gsurvey_leaf.rep r_i64 0 (fun x => x.piece) (fun x y => { x with piece := y }) := (Lens.iso _ _ _ _).comp (Lens.fst _ _)
theorem Gsurvey_leaf.l1 : Lens Gsurvey_leaf.rep Rep.bool 1 (fun x => x.turned) (fun x y => { x with turned := y }) := (Lens.iso _ _ _ _).comp ((Lens.snd _ _).comp (Lens.fst _ _))
theorem Gsurvey_leaf.l2 : Lens Gsurvey_leaf.rep GRect.rep 2 (fun x => x.rect) (fun x y => { x with rect := y }) := (Lens.iso _ _ _ _).comp ((Lens.snd _ _).comp ((Lens.snd _ _).comp (Lens.fst _ _)))
structure Gref09_Leaf where
  Piece : Int
  Turned : Bool
  Rect : GRect
def Gref09_Leaf.rep : Rep Gref09_Leaf := Rep.iso (Rep.prod r_i64 (Rep.prod Rep.bool (Rep.prod GRect.rep Rep.unit))) (fun s => (s.Piece, (s.Turned, (s.Rect, ())))) (fun t => ⟨t.1, t.2.1, t.2.2.1⟩) (fun _ => rfl)
def Gref09_Leaf.ok (y : Gref09_Leaf) : Prop := (gI .i64) y.Piece ∧ (fun _ => True) y.Turned ∧ GRect.ok y.Rect ∧ True
theorem Gref09_Leaf.l0 : Lens Gref09_Leaf.rep r_i64 0 (fun x => x.Piece) (fun x y => { x with Piece := y }) := (Lens.iso _ _ _ _).comp (Lens.fst _ _)
theorem Gref09_Leaf.l1 : Lens Gref09_Leaf.rep Rep.bool 1 (fun x => x.Turned) (fun x y => { x with Turned := y }) := (Lens.iso _ _ _ _).comp ((Lens.snd _ _).comp (Lens.fst _ _))
theorem Gref09_Leaf.l2 : Lens Gref09_Leaf.rep GRect.rep 2 (fun x => x.Rect) (fun x y => { x with Rect := y }) := (Lens.iso _ _ _ _).comp ((Lens.snd _ _).comp ((Lens.snd _ _).comp (Lens.fst _ _)))
abbrev zZ : GInt := (⟨false, []⟩ : GInt)
abbrev zQ : GRat := (⟨(⟨false, []⟩ : GInt), (⟨false, []⟩ : GInt)⟩ : GRat)
abbrev qPlate := GPlate.rep
abbrev qCut := GCut.rep
abbrev qRun := GRun.rep
abbrev qInt := GInt.rep
abbrev qRat := GRat.rep
abbrev qPanel := GPanel.rep
abbrev qRule := GRule.rep
abbrev qRect := GRect.rep
abbrev qsurvey_leaf := Gsurvey_leaf.rep
abbrev qref09_Leaf := Gref09_Leaf.rep
end Go.KB
