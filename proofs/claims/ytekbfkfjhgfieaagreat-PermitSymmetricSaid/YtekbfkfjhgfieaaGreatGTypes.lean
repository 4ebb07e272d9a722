/- Go's types as Lean types. Printed by a program. No condition. -/
import Derived.Test.YtekbfkfjhgfieaaGreatKZf
namespace Go.KB
abbrev r_i8 : Rep Int := Rep.int .i8
abbrev r_i16 : Rep Int := Rep.int .i16
abbrev r_i32 : Rep Int := Rep.int .i32
abbrev r_i64 : Rep Int := Rep.int .i64
abbrev r_u8 : Rep Int := Rep.int .u8
abbrev r_u16 : Rep Int := Rep.int .u16
abbrev r_u32 : Rep Int := Rep.int .u32
abbrev r_u64 : Rep Int := Rep.int .u64
structure GSpace where
  Name : Str
  Enclosed : Bool
  Next : (List Str)
def GSpace.rep : Rep GSpace := Rep.iso (Rep.prod Rep.str (Rep.prod Rep.bool (Rep.prod (Rep.slice Rep.str) Rep.unit))) (fun s => (s.Name, (s.Enclosed, (s.Next, ())))) (fun t => ⟨t.1, t.2.1, t.2.2.1⟩) (fun _ => rfl)
def GSpace.ok (y : GSpace) : Prop := gS y.Name ∧ (fun _ => True) y.Enclosed ∧ (gL gS) y.Next ∧ True
theorem GSpace.l0 : Lens GSpace.rep Rep.str 0 (fun x => x.Name) (fun x y => { x with Name := y }) := (Lens.iso _ _ _ _).comp (Lens.fst _ _)
theorem GSpace.l1 : Lens GSpace.rep Rep.bool 1 (fun x => x.Enclosed) (fun x y => { x with Enclosed := y }) := (Lens.iso _ _ _ _).comp ((Lens.snd _ _).comp (Lens.fst _ _))
theorem GSpace.l2 : Lens GSpace.rep (Rep.slice Rep.str) 2 (fun x => x.Next) (fun x y => { x with Next := y }) := (Lens.iso _ _ _ _).comp ((Lens.snd _ _).comp ((Lens.snd _ _).comp (Lens.fst _ _)))
structure GExclusion where
  A : Int
  B : Int
  Reach : Int
def GExclusion.rep : Rep GExclusion := Rep.iso (Rep.prod r_i64 (Rep.prod r_i64 (Rep.prod r_i64 Rep.unit))) (fun s => (s.A, (s.B, (s.Reach, ())))) (fun t => ⟨t.1, t.2.1, t.2.2.1⟩) (fun _ => rfl)
def GExclusion.ok (y : GExclusion) : Prop := (gI .i64) y.A ∧ (gI .i64) y.B ∧ (gI .i64) y.Reach ∧ True
theorem GExclusion.l0 : Lens GExclusion.rep r_i64 0 (fun x => x.A) (fun x y => { x with A := y }) := (Lens.iso _ _ _ _).comp (Lens.fst _ _)
theorem GExclusion.l1 : Lens GExclusion.rep r_i64 1 (fun x => x.B) (fun x y => { x with B := y }) := (Lens.iso _ _ _ _).comp ((Lens.snd _ _).comp (Lens.fst _ _))
theorem GExclusion.l2 : Lens GExclusion.rep r_i64 2 (fun x => x.Reach) (fun x y => { x with Reach := y }) := (Lens.iso _ _ _ _).comp ((Lens.snd _ _).comp ((Lens.snd _ _).comp (Lens.fst _ _)))
structure GPermit where
  Name : Str
  Kind : Int
  Space : Str
  From : Int
  To : Int
  Locks : (List Str)
def GPermit.rep : Rep GPermit := Rep.iso (Rep.prod Rep.str (Rep.prod r_i64 (Rep.prod Rep.str (Rep.prod r_i64 (Rep.prod r_i64 (Rep.prod (Rep.slice Rep.str) Rep.unit)))))) (fun s => (s.Name, (s.Kind, (s.Space, (s.From, (s.To, (s.Locks, ()))))))) (fun t => ⟨t.1, t.2.1, t.2.2.1, t.2.2.2.1, t.2.2.2.2.1, t.2.2.2.2.2.1⟩) (fun _ => rfl)
def GPermit.ok (y : GPermit) : Prop := gS y.Name ∧ (gI .i64) y.Kind ∧ gS y.Space ∧ (gI .i64) y.From ∧ (gI .i64) y.To ∧ (gL gS) y.Locks ∧ True
theorem GPermit.l0 : Lens GPermit.rep Rep.str 0 (fun x => x.Name) (fun x y => { x with Name := y }) := (Lens.iso _ _ _ _).comp (Lens.fst _ _)
theorem GPermit.l1 : Lens GPermit.rep r_i64 1 (fun x => x.Kind) (fun x y => { x with Kind := y }) := (Lens.iso _ _ _ _).comp ((Lens.snd _ _).comp (Lens.fst _ _))
theorem GPermit.l2 : Lens GPermit.rep Rep.str 2 (fun x => x.Space) (fun x y => { x with Space := y }) := (Lens.iso _ _ _ _).comp ((Lens.snd _ _).comp ((Lens.snd _ _).comp (Lens.fst _ _)))
theorem GPermit.l3 : Lens GPermit.rep r_i64 3 (fun x => x.From) (fun x y => { x with From := y }) := (Lens.iso _ _ _ _).comp ((Lens.snd _ _).comp ((Lens.snd _ _).comp ((Lens.snd _ _).comp (Lens.fst _ _))))
theorem GPermit.l4 : Lens GPermit.rep r_i64 4 (fun x => x.To) (fun x y => { x with To := y }) := (Lens.iso _ _ _ _).comp ((Lens.snd _ _).comp ((Lens.snd _ _).comp ((Lens.snd _ _).comp ((Lens.snd _ _).comp (Lens.fst _ _)))))
theorem GPermit.l5 : Lens GPermit.rep (Rep.slice Rep.str) 5 (fun x => x.Locks) (fun x y => { x with Locks := y }) := (Lens.iso _ _ _ _).comp ((Lens.snd _ _).comp ((Lens.snd _ _).comp ((Lens.snd _ _).comp ((Lens.snd _ _).comp ((Lens.snd _ _).comp (Lens.fst _ _))))))
structure GPermitPlan where
  Spaces : (List GSpace)
  Exclusions : (List GExclusion)
  Permits : (List GPermit)
  GasMinutes : Int
def GPermitPlan.rep : Rep GPermitPlan := Rep.iso (Rep.prod (Rep.slice GSpace.rep) (Rep.prod (Rep.slice GExclusion.rep) (Rep.prod (Rep.slice GPermit.rep) (Rep.prod r_i64 Rep.unit)))) (fun s => (s.Spaces, (s.Exclusions, (s.Permits, (s.GasMinutes, ()))))) (fun t => ⟨t.1, t.2.1, t.2.2.1, t.2.2.2.1⟩) (fun _ => rfl)
def GPermitPlan.ok (y : GPermitPlan) : Prop := (gL GSpace.ok) y.Spaces ∧ (gL GExclusion.ok) y.Exclusions ∧ (gL GPermit.ok) y.Permits ∧ (gI .i64) y.GasMinutes ∧ True
theorem GPermitPlan.l0 : Lens GPermitPlan.rep (Rep.slice GSpace.rep) 0 (fun x => x.Spaces) (fun x y => { x with Spaces := y }) := (Lens.iso _ _ _ _).comp (Lens.fst _ _)
theorem GPermitPlan.l1 : Lens GPermitPlan.rep (Rep.slice GExclusion.rep) 1 (fun x => x.Exclusions) (fun x y => { x with Exclusions := y }) := (Lens.iso _ _ _ _).comp ((Lens.snd _ _).comp (Lens.fst _ _))
theorem GPermitPlan.l2 : Lens GPermitPlan.rep (Rep.slice GPermit.rep) 2 (fun x => x.Permits) (fun x y => { x with Permits := y }) := (Lens.iso _ _ _ _).comp ((Lens.snd _ _).comp ((Lens.snd _ _).comp (Lens.fst _ _)))
theorem GPermitPlan.l3 : Lens GPermitPlan.rep r_i64 3 (fun x => x.GasMinutes) (fun x y => { x with GasMinutes := y }) := (Lens.iso _ _ _ _).comp ((Lens.snd _ _).comp ((Lens.snd _ _).comp ((Lens.snd _ _).comp (Lens.fst _ _))))
structure GEvent where
  At : Int
  Op : Int
  Name : Str
  Space : Str
  Person : Str
  Oxygen : Int
  Gas : Int
  To : Int
def GEvent.rep : Rep GEvent := Rep.iso (Rep.prod r_i64 (Rep.prod r_i64 (Rep.prod Rep.str (Rep.prod Rep.str (Rep.prod Rep.str (Rep.prod r_i64 (Rep.prod r_i64 (Rep.prod r_i64 Rep.unit)))))))) (fun s => (s.At, (s.Op, (s.Name, (s.Space, (s.Person, (s.Oxygen, (s.Gas, (s.To, ()))))))))) (fun t => ⟨t.1, t.2.1, t.2.2.1, t.2.2.2.1, t.2.2.2.2.1, t.2.2.2.2.2.1, t.2.2.2.2.2.2.1, t.2.2.2.2.2.2.2.1⟩) (fun _ => rfl)
def GEvent.ok (y : GEvent) : Prop := (gI .i64) y.At ∧ (gI .i64) y.Op ∧ gS y.Name ∧ gS y.Space ∧ gS y.Person ∧ (gI .i64) y.Oxygen ∧ (gI .i64) y.Gas ∧ (gI .i64) y.To ∧ True
theorem GEvent.l0 : Lens GEvent.rep r_i64 0 (fun x => x.At) (fun x y => { x with At := y }) := (Lens.iso _ _ _ _).comp (Lens.fst _ _)
theorem GEvent.l1 : Lens GEvent.rep r_i64 1 (fun x => x.Op) (fun x y => { x with Op := y }) := (Lens.iso _ _ _ _).comp ((Lens.snd _ _).comp (Lens.fst _ _))
theorem GEvent.l2 : Lens GEvent.rep Rep.str 2 (fun x => x.Name) (fun x y => { x with Name := y }) := (Lens.iso _ _ _ _).comp ((Lens.snd _ _).comp ((Lens.snd _ _).comp (Lens.fst _ _)))
theorem GEvent.l3 : Lens GEvent.rep Rep.str 3 (fun x => x.Space) (fun x y => { x with Space := y }) := (Lens.iso _ _ _ _).comp ((Lens.snd _ _).comp ((Lens.snd _ _).comp ((Lens.snd _ _).comp (Lens.fst _ _))))
theorem GEvent.l4 : Lens GEvent.rep Rep.str 4 (fun x => x.Person) (fun x y => { x with Person := y }) := (Lens.iso _ _ _ _).comp ((Lens.snd _ _).comp ((Lens.snd _ _).comp ((Lens.snd _ _).comp ((Lens.snd _ _).comp (Lens.fst _ _)))))
theorem GEvent.l5 : Lens GEvent.rep r_i64 5 (fun x => x.Oxygen) (fun x y => { x with Oxygen := y }) := (Lens.iso _ _ _ _).comp ((Lens.snd _ _).comp ((Lens.snd _ _).comp ((Lens.snd _ _).comp ((Lens.snd _ _).comp ((Lens.snd _ _).comp (Lens.fst _ _))))))
theorem GEvent.l6 : Lens GEvent.rep r_i64 6 (fun x => x.Gas) (fun x y => { x with Gas := y }) := (Lens.iso _ _ _ _).comp ((Lens.snd _ _).comp ((Lens.snd _ _).comp ((Lens.snd _ _).comp ((Lens.snd _ _).comp ((Lens.snd _ _).comp ((Lens.snd _ _).comp (Lens.fst _ _)))))))
theorem GEvent.l7 : Lens GEvent.rep r_i64 7 (fun x => x.To) (fun x y => { x with To := y }) := (Lens.iso _ _ _ _).comp ((Lens.snd _ _).comp ((Lens.snd _ _).comp ((Lens.snd _ _).comp ((Lens.snd _ _).comp ((Lens.snd _ _).comp ((Lens.snd _ _).comp ((Lens.snd _ _).comp (Lens.fst _ _))))))))
structure Gpermit_Office where
  plan : GPermitPlan
  now : Int
  done : (List GEvent)
def Gpermit_Office.rep : Rep (Gpermit_Office × Value × Value × Value) := Rep.iso (Rep.prod GPermitPlan.rep (Rep.prod r_i64 (Rep.prod Rep.rawM (Rep.prod Rep.rawM (Rep.prod Rep.rawM (Rep.prod (Rep.slice GEvent.rep) Rep.unit)))))) (fun s => (s.1.plan, (s.1.now, (s.2.1, (s.2.2.1, (s.2.2.2, (s.1.done, ()))))))) (fun t => (⟨t.1, t.2.1, t.2.2.2.2.2.1⟩, t.2.2.1, t.2.2.2.1, t.2.2.2.2.1)) (fun _ => rfl)
theorem Gpermit_Office.l0 : Lens Gpermit_Office.rep GPermitPlan.rep 0 (fun x => x.1.plan) (fun x y => ({ x.1 with plan := y }, x.2)) := (Lens.iso _ _ _ _).comp (Lens.fst _ _)
theorem Gpermit_Office.l1 : Lens Gpermit_Office.rep r_i64 4 (fun x => x.1.now) (fun x y => ({ x.1 with now := y }, x.2)) := (Lens.iso _ _ _ _).comp ((Lens.snd _ _).comp (Lens.fst _ _))
theorem Gpermit_Office.l2 : Lens Gpermit_Office.rep Rep.rawM 5 (fun x => x.2.1) (fun x y => (x.1, y, x.2.2.1, x.2.2.2)) := (Lens.iso _ _ _ _).comp ((Lens.snd _ _).comp ((Lens.snd _ _).comp (Lens.fst _ _)))
theorem Gpermit_Office.l3 : Lens Gpermit_Office.rep Rep.rawM 6 (fun x => x.2.2.1) (fun x y => (x.1, x.2.1, y, x.2.2.2)) := (Lens.iso _ _ _ _).comp ((Lens.snd _ _).comp ((Lens.snd _ _).comp ((Lens.snd _ _).comp (Lens.fst _ _))))
theorem Gpermit_Office.l4 : Lens Gpermit_Office.rep Rep.rawM 7 (fun x => x.2.2.2) (fun x y => (x.1, x.2.1, x.2.2.1, y)) := (Lens.iso _ _ _ _).comp ((Lens.snd _ _).comp ((Lens.snd _ _).comp ((Lens.snd _ _).comp ((Lens.snd _ _).comp (Lens.fst _ _)))))
theorem Gpermit_Office.l5 : Lens Gpermit_Office.rep (Rep.slice GEvent.rep) 8 (fun x => x.1.done) (fun x y => ({ x.1 with done := y }, x.2)) := (Lens.iso _ _ _ _).comp ((Lens.snd _ _).comp ((Lens.snd _ _).comp ((Lens.snd _ _).comp ((Lens.snd _ _).comp ((Lens.snd _ _).comp (Lens.fst _ _))))))
structure Gpermit_entry where
  state : Int
  by_ : Str
  to_ : Int
def Gpermit_entry.rep : Rep Gpermit_entry := Rep.iso (Rep.prod r_i64 (Rep.prod Rep.str (Rep.prod r_i64 Rep.unit))) (fun s => (s.state, (s.by_, (s.to_, ())))) (fun t => ⟨t.1, t.2.1, t.2.2.1⟩) (fun _ => rfl)
def Gpermit_entry.ok (y : Gpermit_entry) : Prop := (gI .i64) y.state ∧ gS y.by_ ∧ (gI .i64) y.to_ ∧ True
theorem Gpermit_entry.l0 : Lens Gpermit_entry.rep r_i64 0 (fun x => x.state) (fun x y => { x with state := y }) := (Lens.iso _ _ _ _).comp (Lens.fst _ _)
theorem Gpermit_entry.l1 : Lens Gpermit_entry.rep Rep.str 1 (fun x => x.by_) (fun x y => { x with by_ := y }) := (Lens.iso _ _ _ _).comp ((Lens.snd _ _).comp (Lens.fst _ _))
theorem Gpermit_entry.l2 : Lens Gpermit_entry.rep r_i64 2 (fun x => x.to_) (fun x y => { x with to_ := y }) := (Lens.iso _ _ _ _).comp ((Lens.snd _ _).comp ((Lens.snd _ _).comp (Lens.fst _ _)))
structure Gpermit_test where
  at_ : Int
  oxygen : Int
  gas : Int
def Gpermit_test.rep : Rep Gpermit_test := Rep.iso (Rep.prod r_i64 (Rep.prod r_i64 (Rep.prod r_i64 Rep.unit))) (fun s => (s.at_, (s.oxygen, (s.gas, ())))) (fun t => ⟨t.1, t.2.1, t.2.2.1⟩) (fun _ => rfl)
def Gpermit_test.ok (y : Gpermit_test) : Prop := (gI .i64) y.at_ ∧ (gI .i64) y.oxygen ∧ (gI .i64) y.gas ∧ True
theorem Gpermit_test.l0 : Lens Gpermit_test.rep r_i64 0 (fun x => x.at_) (fun x y => { x with at_ := y }) := (Lens.iso _ _ _ _).comp (Lens.fst _ _)
theorem Gpermit_test.l1 : Lens Gpermit_test.rep r_i64 1 (fun x => x.oxygen) (fun x y => { x with oxygen := y }) := (Lens.iso _ _ _ _).comp ((Lens.snd _ _).comp (Lens.fst _ _))
theorem Gpermit_test.l2 : Lens Gpermit_test.rep r_i64 2 (fun x => x.gas) (fun x y => { x with gas := y }) := (Lens.iso _ _ _ _).comp ((Lens.snd _ _).comp ((Lens.snd _ _).comp (Lens.fst _ _)))
structure Gpermit_deed where
  word : Str
  fields : Str
  states : (List Int)
  do_ : (Option Nat)
def Gpermit_deed.rep : Rep Gpermit_deed := Rep.iso (Rep.prod Rep.str (Rep.prod Rep.str (Rep.prod (Rep.sliceE r_i64) (Rep.prod Rep.fnum Rep.unit)))) (fun s => (s.word, (s.fields, (s.states, (s.do_, ()))))) (fun t => ⟨t.1, t.2.1, t.2.2.1, t.2.2.2.1⟩) (fun _ => rfl)
theorem Gpermit_deed.l0 : Lens Gpermit_deed.rep Rep.str 0 (fun x => x.word) (fun x y => { x with word := y }) := (Lens.iso _ _ _ _).comp (Lens.fst _ _)
theorem Gpermit_deed.l1 : Lens Gpermit_deed.rep Rep.str 1 (fun x => x.fields) (fun x y => { x with fields := y }) := (Lens.iso _ _ _ _).comp ((Lens.snd _ _).comp (Lens.fst _ _))
theorem Gpermit_deed.l2 : Lens Gpermit_deed.rep (Rep.sliceE r_i64) 2 (fun x => x.states) (fun x y => { x with states := y }) := (Lens.iso _ _ _ _).comp ((Lens.snd _ _).comp ((Lens.snd _ _).comp (Lens.fst _ _)))
theorem Gpermit_deed.l3 : Lens Gpermit_deed.rep Rep.fnum 3 (fun x => x.do_) (fun x y => { x with do_ := y }) := (Lens.iso _ _ _ _).comp ((Lens.snd _ _).comp ((Lens.snd _ _).comp ((Lens.snd _ _).comp (Lens.fst _ _))))
structure Gpermit_refusal where
  names : (List Str)
  e : Int
def Gpermit_refusal.rep : Rep Gpermit_refusal := Rep.iso (Rep.prod (Rep.slice Rep.str) (Rep.prod r_i64 Rep.unit)) (fun s => (s.names, (s.e, ()))) (fun t => ⟨t.1, t.2.1⟩) (fun _ => rfl)
def Gpermit_refusal.ok (y : Gpermit_refusal) : Prop := (gL gS) y.names ∧ (gI .i64) y.e ∧ True
theorem Gpermit_refusal.l0 : Lens Gpermit_refusal.rep (Rep.slice Rep.str) 0 (fun x => x.names) (fun x y => { x with names := y }) := (Lens.iso _ _ _ _).comp (Lens.fst _ _)
theorem Gpermit_refusal.l1 : Lens Gpermit_refusal.rep r_i64 1 (fun x => x.e) (fun x y => { x with e := y }) := (Lens.iso _ _ _ _).comp ((Lens.snd _ _).comp (Lens.fst _ _))
structure GReason where
  Err : Int
  Names : (List Str)
def GReason.rep : Rep GReason := Rep.iso (Rep.prod r_i64 (Rep.prod (Rep.slice Rep.str) Rep.unit)) (fun s => (s.Err, (s.Names, ()))) (fun t => ⟨t.1, t.2.1⟩) (fun _ => rfl)
def GReason.ok (y : GReason) : Prop := (gI .i64) y.Err ∧ (gL gS) y.Names ∧ True
theorem GReason.l0 : Lens GReason.rep r_i64 0 (fun x => x.Err) (fun x y => { x with Err := y }) := (Lens.iso _ _ _ _).comp (Lens.fst _ _)
theorem GReason.l1 : Lens GReason.rep (Rep.slice Rep.str) 1 (fun x => x.Names) (fun x y => { x with Names := y }) := (Lens.iso _ _ _ _).comp ((Lens.snd _ _).comp (Lens.fst _ _))
abbrev qSpace := GSpace.rep
abbrev qExclusion := GExclusion.rep
abbrev qPermit := GPermit.rep
abbrev qPermitPlan := GPermitPlan.rep
abbrev qEvent := GEvent.rep
abbrev qpermit_Office := Gpermit_Office.rep
abbrev qpermit_entry := Gpermit_entry.rep
abbrev qpermit_test := Gpermit_test.rep
abbrev qpermit_deed := Gpermit_deed.rep
abbrev qpermit_refusal := Gpermit_refusal.rep
abbrev qReason := GReason.rep
abbrev oO0 (k : Nat) (g : Gpermit_Office) (a2 a3 a4 v : Value) (x2 : (List (Str × Gpermit_entry))) (x3 : (List (Str × Gpermit_test))) (x4 : (List (Str × Str))) : List (Nat × OwnP) := [(k, atV (boxT 110 Gpermit_Office.rep (g, a2, a3, a4) ([⟨8, 45, GEvent.rep.sz⟩] : List TipS)) v), (k + 1, atV (mapE kStr Gpermit_entry.rep x2) a2), (k + 2, atV (mapE kStr Gpermit_test.rep x3) a3), (k + 3, atV (mapE kStr Rep.str x4) a4)]
abbrev oP0 (k : Nat) (g : Gpermit_Office) (a2 a3 a4 v : Value) (x2 : (List (Str × Gpermit_entry))) (x3 : (List (Str × Gpermit_test))) (x4 : (List (Str × Str))) : List (Nat × OwnP) := [(k, atV (boxT 110 Gpermit_Office.rep (g, a2, a3, a4) ([] : List TipS)) v), (k + 1, atV (mapE kStr Gpermit_entry.rep x2) a2), (k + 2, atV (mapE kStr Gpermit_test.rep x3) a3), (k + 3, atV (mapE kStr Rep.str x4) a4)]
end Go.KB
