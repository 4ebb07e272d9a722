/- Go's types as Lean types. Printed by a program. No condition. -/
import Derived.Test.YtekbfkfjhgfieaaGreatKZf
namespace Go.KB
abbrev r_i8 : Rep Int := Rep.int .i8
abbrev r_i16 : Rep Int := Rep.int .i16
abbrev r_i32 : Rep Int := Rep.int .i32
abbrev jZk : Rep Int := Rep.int .i64
abbrev jN6 : Rep Int := Rep.int .u8
abbrev r_u16 : Rep Int := Rep.int .u16
abbrev r_u32 : Rep Int := Rep.int .u32
abbrev r_u64 : Rep Int := Rep.int .u64
structure jJ5 where
  Name : Str
  Enclosed : Bool
  Next : (List Str)
def jJ5.rep : Rep jJ5 := Rep.iso (Rep.prod Rep.str (Rep.prod Rep.bool (Rep.prod (Rep.slice Rep.str) Rep.unit))) (fun s => (s.Name, (s.Enclosed, (s.Next, ())))) (fun t => ⟨t.1, t.2.1, t.2.2.1⟩) (fun _ => rfl)
def jJ5.ok (y : jJ5) : Prop := gS y.Name ∧ (fun _ => True) y.Enclosed ∧ (gL gS) y.Next ∧ True
theorem jJ5.l0 : Lens jJ5.rep Rep.str 0 (fun x => x.Name) (fun x y => { x with Name := y }) := (Lens.iso _ _ _ _).comp (Lens.fst _ _)
theorem jJ5.l1 : Lens jJ5.rep Rep.bool 1 (fun x => x.Enclosed) (fun x y => { x with Enclosed := y }) := (Lens.iso _ _ _ _).comp ((Lens.snd _ _).comp (Lens.fst _ _))
theorem jJ5.l2 : Lens jJ5.rep (Rep.slice Rep.str) 2 (fun x => x.Next) (fun x y => { x with Next := y }) := (Lens.iso _ _ _ _).comp ((Lens.snd _ _).comp ((Lens.snd _ _).comp (Lens.fst _ _)))
structure jJt where
  A : Int
  B : Int
  Reach : Int
def jJt.rep : Rep jJt := Rep.iso (Rep.prod jZk (Rep.prod jZk (Rep.prod jZk Rep.unit))) (fun s => (s.A, (s.B, (s.Reach, ())))) (fun t => ⟨t.1, t.2.1, t.2.2.1⟩) (fun _ => rfl)
def jJt.ok (y : jJt) : Prop := (gI .i64) y.A ∧ (gI .i64) y.B ∧ (gI .i64) y.Reach ∧ True
theorem jJt.l0 : Lens jJt.rep jZk 0 (fun x => x.A) (fun x y => { x with A := y }) := (Lens.iso _ _ _ _).comp (Lens.fst _ _)
theorem jJt.l1 : Lens jJt.rep jZk 1 (fun x => x.B) (fun x y => { x with B := y }) := (Lens.iso _ _ _ _).comp ((Lens.snd _ _).comp (Lens.fst _ _))
theorem jJt.l2 : Lens jJt.rep jZk 2 (fun x => x.Reach) (fun x y => { x with Reach := y }) := (Lens.iso _ _ _ _).comp ((Lens.snd _ _).comp ((Lens.snd _ _).comp (Lens.fst _ _)))
structure jJu where
  Name : Str
  Kind : Int
  Space : Str
  From : Int
  To : Int
  Locks : (List Str)
def jJu.rep : Rep jJu := Rep.iso (Rep.prod Rep.str (Rep.prod jZk (Rep.prod Rep.str (Rep.prod jZk (Rep.prod jZk (Rep.prod (Rep.slice Rep.str) Rep.unit)))))) (fun s => (s.Name, (s.Kind, (s.Space, (s.From, (s.To, (s.Locks, ()))))))) (fun t => ⟨t.1, t.2.1, t.2.2.1, t.2.2.2.1, t.2.2.2.2.1, t.2.2.2.2.2.1⟩) (fun _ => rfl)
def jJu.ok (y : jJu) : Prop := gS y.Name ∧ (gI .i64) y.Kind ∧ gS y.Space ∧ (gI .i64) y.From ∧ (gI .i64) y.To ∧ (gL gS) y.Locks ∧ True
theorem jJu.l0 : Lens jJu.rep Rep.str 0 (fun x => x.Name) (fun x y => { x with Name := y }) := (Lens.iso _ _ _ _).comp (Lens.fst _ _)
theorem jJu.l1 : Lens jJu.rep jZk 1 (fun x => x.Kind) (fun x y => { x with Kind := y }) := (Lens.iso _ _ _ _).comp ((Lens.snd _ _).comp (Lens.fst _ _))
theorem jJu.l2 : Lens jJu.rep Rep.str 2 (fun x => x.Space) (fun x y => { x with Space := y }) := (Lens.iso _ _ _ _).comp ((Lens.snd _ _).comp ((Lens.snd _ _).comp (Lens.fst _ _)))
theorem jJu.l3 : Lens jJu.rep jZk 3 (fun x => x.From) (fun x y => { x with From := y }) := (Lens.iso _ _ _ _).comp ((Lens.snd _ _).comp ((Lens.snd _ _).comp ((Lens.snd _ _).comp (Lens.fst _ _))))
theorem jJu.l4 : Lens jJu.rep jZk 4 (fun x => x.To) (fun x y => { x with To := y }) := (Lens.iso _ _ _ _).comp ((Lens.snd _ _).comp ((Lens.snd _ _).comp ((Lens.snd _ _).comp ((Lens.snd _ _).comp (Lens.fst _ _)))))
theorem jJu.l5 : Lens jJu.rep (Rep.slice Rep.str) 5 (fun x => x.Locks) (fun x y => { x with Locks := y }) := (Lens.iso _ _ _ _).comp ((Lens.snd _ _).comp ((Lens.snd _ _).comp ((Lens.snd _ _).comp ((Lens.snd _ _).comp ((Lens.snd _ _).comp (Lens.fst _ _))))))
structure GPermitPlan where
  Spaces : (List jJ5)
  Exclusions : (List jJt)
  Permits : (List jJu)
  GasMinutes : Int
def GPermitPlan.rep : Rep GPermitPlan := Rep.iso (Rep.prod (Rep.slice jJ5.rep) (Rep.prod (Rep.slice jJt.rep) (Rep.prod (Rep.slice jJu.rep) (Rep.prod jZk Rep.unit)))) (fun s => (s.Spaces, (s.Exclusions, (s.Permits, (s.GasMinutes, ()))))) (fun t => ⟨t.1, t.2.1, t.2.2.1, t.2.2.2.1⟩) (fun _ => rfl)
def GPermitPlan.ok (y : GPermitPlan) : Prop := (gL jJ5.ok) y.Spaces ∧ (gL jJt.ok) y.Exclusions ∧ (gL jJu.ok) y.Permits ∧ (gI .i64) y.GasMinutes ∧ True
theorem GPermitPlan.l0 : Lens GPermitPlan.rep (Rep.slice jJ5.rep) 0 (fun x => x.Spaces) (fun x y => { x with Spaces := y }) := (Lens.iso _ _ _ _).comp (Lens.fst _ _)
theorem GPermitPlan.l1 : Lens GPermitPlan.rep (Rep.slice jJt.rep) 1 (fun x => x.Exclusions) (fun x y => { x with Exclusions := y }) := (Lens.iso _ _ _ _).comp ((Lens.snd _ _).comp (Lens.fst _ _))
theorem GPermitPlan.l2 : Lens GPermitPlan.rep (Rep.slice jJu.rep) 2 (fun x => x.Permits) (fun x y => { x with Permits := y }) := (Lens.iso _ _ _ _).comp ((Lens.snd _ _).comp ((Lens.snd _ _).comp (Lens.fst _ _)))
theorem GPermitPlan.l3 : Lens GPermitPlan.rep jZk 3 (fun x => x.GasMinutes) (fun x y => { x with GasMinutes := y }) := (Lens.iso _ _ _ _).comp ((Lens.snd _ _).comp ((Lens.snd _ _).comp ((Lens.snd _ _).comp (Lens.fst _ _))))
structure GEvent where
  At : Int
  Op : Int
  Name : Str
  Space : Str
  Person : Str
  Oxygen : Int
  Gas : Int
  To : Int
def GEvent.rep : Rep GEvent := Rep.iso (Rep.prod jZk (Rep.prod jZk (Rep.prod Rep.str (Rep.prod Rep.str (Rep.prod Rep.str (Rep.prod jZk (Rep.prod jZk (Rep.prod jZk Rep.unit)))))))) (fun s => (s.At, (s.Op, (s.Name, (s.Space, (s.Person, (s.Oxygen, (s.Gas, (s.To, ()))))))))) (fun t => ⟨t.1, t.2.1, t.2.2.1, t.2.2.2.1, t.2.2.2.2.1, t.2.2.2.2.2.1, t.2.2.2.2.2.2.1, t.2.2.2.2.2.2.2.1⟩) (fun _ => rfl)
def GEvent.ok (y : GEvent) : Prop := (gI .i64) y.At ∧ (gI .i64) y.Op ∧ gS y.Name ∧ gS y.Space ∧ gS y.Person ∧ (gI .i64) y.Oxygen ∧ (gI .i64) y.Gas ∧ (gI .i64) y.To ∧ True
theorem GEvent.l0 : Lens GEvent.rep jZk 0 (fun x => x.At) (fun x y => { x with At := y }) := (Lens.iso _ _ _ _).comp (Lens.fst _ _)
theorem GEvent.l1 : Lens GEvent.rep jZk 1 (fun x => x.Op) (fun x y => { x with Op := y }) := (Lens.iso _ _ _ _).comp ((Lens.snd _ _).comp (Lens.fst _ _))
theorem GEvent.l2 : Lens GEvent.rep Rep.str 2 (fun x => x.Name) (fun x y => { x with Name := y }) := (Lens.iso _ _ _ _).comp ((Lens.snd _ _).comp ((Lens.snd _ _).comp (Lens.fst _ _)))
theorem GEvent.l3 : Lens GEvent.rep Rep.str 3 (fun x => x.Space) (fun x y => { x with Space := y }) := (Lens.iso _ _ _ _).comp ((Lens.snd _ _).comp ((Lens.snd _ _).comp ((Lens.snd _ _).comp (Lens.fst _ _))))
theorem GEvent.l4 : Lens GEvent.rep Rep.str 4 (fun x => x.Person) (fun x y => { x with Person := y }) := (Lens.iso _ _ _ _).comp ((Lens.snd _ _).comp ((Lens.snd _ _).comp ((Lens.snd _ _).comp ((Lens.snd _ _).comp (Lens.fst _ _)))))
theorem GEvent.l5 : Lens GEvent.rep jZk 5 (fun x => x.Oxygen) (fun x y => { x with Oxygen := y }) := (Lens.iso _ _ _ _).comp ((Lens.snd _ _).comp ((Lens.snd _ _).comp ((Lens.snd _ _).comp ((Lens.snd _ _).comp ((Lens.snd _ _).comp (Lens.fst _ _))))))
theorem GEvent.l6 : Lens GEvent.rep jZk 6 (fun x => x.Gas) (fun x y => { x with Gas := y }) := (Lens.iso _ _ _ _).comp ((Lens.snd _ _).comp ((Lens.snd _ _).comp ((Lens.snd _ _).comp ((Lens.snd _ _).comp ((Lens.snd _ _).comp ((Lens.snd _ _).comp (Lens.fst _ _)))))))
theorem GEvent.l7 : Lens GEvent.rep jZk 7 (fun x => x.To) (fun x y => { x with To := y }) := (Lens.iso _ _ _ _).comp ((Lens.snd _ _).comp ((Lens.snd _ _).comp ((Lens.snd _ _).comp ((Lens.snd _ _).comp ((Lens.snd _ _).comp ((Lens.snd _ _).comp ((Lens.snd _ _).comp (Lens.fst _ _))))))))
structure jJq where
  plan : GPermitPlan
  now : Int
  done : (List GEvent)
def jJq.rep : Rep (jJq × Value × Value × Value) := Rep.iso (Rep.prod GPermitPlan.rep (Rep.prod jZk (Rep.prod Rep.rawM (Rep.prod Rep.rawM (Rep.prod Rep.rawM (Rep.prod (Rep.slice GEvent.rep) Rep.unit)))))) (fun s => (s.1.plan, (s.1.now, (s.2.1, (s.2.2.1, (s.2.2.2, (s.1.done, ()))))))) (fun t => (⟨t.1, t.2.1, t.2.2.2.2.2.1⟩, t.2.2.1, t.2.2.2.1, t.2.2.2.2.1)) (fun _ => rfl)
theorem jJq.l0 : Lens jJq.rep GPermitPlan.rep 0 (fun x => x.1.plan) (fun x y => ({ x.1 with plan := y }, x.2)) := (Lens.iso _ _ _ _).comp (Lens.fst _ _)
theorem jJq.l1 : Lens jJq.rep jZk 4 (fun x => x.1.now) (fun x y => ({ x.1 with now := y }, x.2)) := (Lens.iso _ _ _ _).comp ((Lens.snd _ _).comp (Lens.fst _ _))
theorem jJq.l2 : Lens jJq.rep Rep.rawM 5 (fun x => x.2.1) (fun x y => (x.1, y, x.2.2.1, x.2.2.2)) := (Lens.iso _ _ _ _).comp ((Lens.snd _ _).comp ((Lens.snd _ _).comp (Lens.fst _ _)))
theorem jJq.l3 : Lens jJq.rep Rep.rawM 6 (fun x => x.2.2.1) (fun x y => (x.1, x.2.1, y, x.2.2.2)) := (Lens.iso _ _ _ _).comp ((Lens.snd _ _).comp ((Lens.snd _ _).comp ((Lens.snd _ _).comp (Lens.fst _ _))))
theorem jJq.l4 : Lens jJq.rep Rep.rawM 7 (fun x => x.2.2.2) (fun x y => (x.1, x.2.1, x.2.2.1, y)) := (Lens.iso _ _ _ _).comp ((Lens.snd _ _).comp ((Lens.snd _ _).comp ((Lens.snd _ _).comp ((Lens.snd _ _).comp (Lens.fst _ _)))))
theorem jJq.l5 : Lens jJq.rep (Rep.slice GEvent.rep) 8 (fun x => x.1.done) (fun x y => ({ x.1 with done := y }, x.2)) := (Lens.iso _ _ _ _).comp ((Lens.snd _ _).comp ((Lens.snd _ _).comp ((Lens.snd _ _).comp ((Lens.snd _ _).comp ((Lens.snd _ _).comp (Lens.fst _ _))))))
structure jJj where
  state : Int
  by_ : Str
  to_ : Int
def jJj.rep : Rep jJj := Rep.iso (Rep.prod jZk (Rep.prod Rep.str (Rep.prod jZk Rep.unit))) (fun s => (s.state, (s.by_, (s.to_, ())))) (fun t => ⟨t.1, t.2.1, t.2.2.1⟩) (fun _ => rfl)
def jJj.ok (y : jJj) : Prop := (gI .i64) y.state ∧ gS y.by_ ∧ (gI .i64) y.to_ ∧ True
theorem jJj.l0 : Lens jJj.rep jZk 0 (fun x => x.state) (fun x y => { x with state := y }) := (Lens.iso _ _ _ _).comp (Lens.fst _ _)
theorem jJj.l1 : Lens jJj.rep Rep.str 1 (fun x => x.by_) (fun x y => { x with by_ := y }) := (Lens.iso _ _ _ _).comp ((Lens.snd _ _).comp (Lens.fst _ _))
theorem jJj.l2 : Lens jJj.rep jZk 2 (fun x => x.to_) (fun x y => { x with to_ := y }) := (Lens.iso _ _ _ _).comp ((Lens.snd _ _).comp ((Lens.snd _ _).comp (Lens.fst _ _)))
structure jJz where
  at_ : Int
  oxygen : Int
  gas : Int
def jJz.rep : Rep jJz := Rep.iso (Rep.prod jZk (Rep.prod jZk (Rep.prod jZk Rep.unit))) (fun s => (s.at_, (s.oxygen, (s.gas, ())))) (fun t => ⟨t.1, t.2.1, t.2.2.1⟩) (fun _ => rfl)
def jJz.ok (y : jJz) : Prop := (gI .i64) y.at_ ∧ (gI .i64) y.oxygen ∧ (gI .i64) y.gas ∧ True
theorem jJz.l0 : Lens jJz.rep jZk 0 (fun x => x.at_) (fun x y => { x with at_ := y }) := (Lens.iso _ _ _ _).comp (Lens.fst _ _)
theorem jJz.l1 : Lens jJz.rep jZk 1 (fun x => x.oxygen) (fun x y => { x with oxygen := y }) := (Lens.iso _ _ _ _).comp ((Lens.snd _ _).comp (Lens.fst _ _))
theorem jJz.l2 : Lens jJz.rep jZk 2 (fun x => x.gas) (fun x y => { x with gas := y }) := (Lens.iso _ _ _ _).comp ((Lens.snd _ _).comp ((Lens.snd _ _).comp (Lens.fst _ _)))
structure jJb where
  word : Str
  fields : Str
  states : (List Int)
  do_ : (Option Nat)
def jJb.rep : Rep jJb := Rep.iso (Rep.prod Rep.str (Rep.prod Rep.str (Rep.prod (Rep.sliceE jZk) (Rep.prod Rep.fnum Rep.unit)))) (fun s => (s.word, (s.fields, (s.states, (s.do_, ()))))) (fun t => ⟨t.1, t.2.1, t.2.2.1, t.2.2.2.1⟩) (fun _ => rfl)
theorem jJb.l0 : Lens jJb.rep Rep.str 0 (fun x => x.word) (fun x y => { x with word := y }) := (Lens.iso _ _ _ _).comp (Lens.fst _ _)
theorem jJb.l1 : Lens jJb.rep Rep.str 1 (fun x => x.fields) (fun x y => { x with fields := y }) := (Lens.iso _ _ _ _).comp ((Lens.snd _ _).comp (Lens.fst _ _))
theorem jJb.l2 : Lens jJb.rep (Rep.sliceE jZk) 2 (fun x => x.states) (fun x y => { x with states := y }) := (Lens.iso _ _ _ _).comp ((Lens.snd _ _).comp ((Lens.snd _ _).comp (Lens.fst _ _)))
theorem jJb.l3 : Lens jJb.rep Rep.fnum 3 (fun x => x.do_) (fun x y => { x with do_ := y }) := (Lens.iso _ _ _ _).comp ((Lens.snd _ _).comp ((Lens.snd _ _).comp ((Lens.snd _ _).comp (Lens.fst _ _))))
structure jJk where
  names : (List Str)
  e : Int
def jJk.rep : Rep jJk := Rep.iso (Rep.prod (Rep.slice Rep.str) (Rep.prod jZk Rep.unit)) (fun s => (s.names, (s.e, ()))) (fun t => ⟨t.1, t.2.1⟩) (fun _ => rfl)
def jJk.ok (y : jJk) : Prop := (gL gS) y.names ∧ (gI .i64) y.e ∧ True
theorem jJk.l0 : Lens jJk.rep (Rep.slice Rep.str) 0 (fun x => x.names) (fun x y => { x with names := y }) := (Lens.iso _ _ _ _).comp (Lens.fst _ _)
theorem jJk.l1 : Lens jJk.rep jZk 1 (fun x => x.e) (fun x y => { x with e := y }) := (Lens.iso _ _ _ _).comp ((Lens.snd _ _).comp (Lens.fst _ _))
structure jJ9 where
  Err : Int
  Names : (List Str)
def jJ9.rep : Rep jJ9 := Rep.iso (Rep.prod jZk (Rep.prod (Rep.slice Rep.str) Rep.unit)) (fun s => (s.Err, (s.Names, ()))) (fun t => ⟨t.1, t.2.1⟩) (fun _ => rfl)
def jJ9.ok (y : jJ9) : Prop := (gI .i64) y.Err ∧ (gL gS) y.Names ∧ True
theorem jJ9.l0 : Lens jJ9.rep jZk 0 (fun x => x.Err) (fun x y => { x with Err := y }) := (Lens.iso _ _ _ _).comp (Lens.fst _ _)
theorem jJ9.l1 : Lens jJ9.rep (Rep.slice Rep.str) 1 (fun x => x.Names) (fun x y => { x with Names := y }) := (Lens.iso _ _ _ _).comp ((Lens.snd _ _).comp (Lens.fst _ _))
abbrev jJd := jJ5.rep
abbrev jJc := jJt.rep
abbrev jJw := jJu.rep
abbrev jJx := GPermitPlan.rep
abbrev jJn := GEvent.rep
abbrev jJl := jJq.rep
abbrev jJg := jJj.rep
abbrev jJe := jJz.rep
abbrev jQz := jJb.rep
abbrev jJv := jJk.rep
abbrev jXg := jJ9.rep
abbrev oO0 (k : Nat) (g : jJq) (a2 a3 a4 v : Value) (x2 : (List (Str × jJj))) (x3 : (List (Str × jJz))) (x4 : (List (Str × Str))) : List (Nat × jVz) := [(k, atV (jWj 110 jJq.rep (g, a2, a3, a4) ([⟨8, 45, GEvent.rep.sz⟩] : List jV4)) v), (k + 1, atV (jQ5 jQ1 jJj.rep x2) a2), (k + 2, atV (jQ5 jQ1 jJz.rep x3) a3), (k + 3, atV (jQ5 jQ1 Rep.str x4) a4)]
abbrev oP0 (k : Nat) (g : jJq) (a2 a3 a4 v : Value) (x2 : (List (Str × jJj))) (x3 : (List (Str × jJz))) (x4 : (List (Str × Str))) : List (Nat × jVz) := [(k, atV (jWj 110 jJq.rep (g, a2, a3, a4) ([] : List jV4)) v), (k + 1, atV (jQ5 jQ1 jJj.rep x2) a2), (k + 2, atV (jQ5 jQ1 jJz.rep x3) a3), (k + 3, atV (jQ5 jQ1 Rep.str x4) a4)]
end Go.KB
