/- Go's types as Lean types. Printed by a program. No condition. -/
import Derived.Test.YtekbfkfjhgfieaaGreatKZf
namespace Go.KB
abbrev r_i8 : Rep Int := Rep.int .i8
abbrev r_i16 : Rep Int := Rep.int .i16
abbrev r_i32 : Rep Int := Rep.int .i32
abbrev jZy : Rep Int := Rep.int .i64
abbrev jPx : Rep Int := Rep.int .u8
abbrev r_u16 : Rep Int := Rep.int .u16
abbrev r_u32 : Rep Int := Rep.int .u32
abbrev r_u64 : Rep Int := Rep.int .u64
structure jJ5 where
  Name : Str
  Enclosed : Bool
  Next : (List Str)
def jJ5.rep : Rep jJ5 := Rep.iso (Rep.prod Rep.str (Rep.prod Rep.bool (Rep.prod (Rep.slice Rep.str) Rep.unit))) (fun s => (s.Name, (s.Enclosed, (s.Next, ())))) (fun t => ⟨t.1, t.2.1, t.2.2.1⟩) (fun _ => rfl)
def jJ5.ok (y : jJ5) : Prop := gS y.Name ∧ (fun _ => True) y.Enclosed ∧ (gL gS) y.Next ∧ True
theorem jJ5.l0 : Lens jJ5.rep Rep.str 0 (fun x => x.Name) (fun x y => { x with Name := y }) := (Lens.iso _ _ _ _).comp (Lens.fst _ _)
theorem jJ5.l1 : Lens jJ5.rep Rep.bool 1 (fun x => x.Enclosed) (fun x y => { x with Enclosed := y }) := (Lens.iso _ _ _ _).comp ((Lens.snd _ _).comp (Lens.fst _ _))
theorem jJ5.l2 : Lens jJ5.rep (Rep.slice Rep.str) 2 (fun x => x.Next) (fun x y => { x with Next := y }) := (Lens.iso _ _ _ _).comp ((Lens.snd _ _).comp ((Lens.snd _ _).comp (Lens.fst _ _)))
structure jJr where
  A : Int
  B : Int
  Reach : Int
def jJr.rep : Rep jJr := Rep.iso (Rep.prod jZy (Rep.prod jZy (Rep.prod jZy Rep.unit))) (fun s => (s.A, (s.B, (s.Reach, ())))) (fun t => ⟨t.1, t.2.1, t.2.2.1⟩) (fun _ => rfl)
def jJr.ok (y : jJr) : Prop := (gI .i64) y.A ∧ (gI .i64) y.B ∧ (gI .i64) y.Reach ∧ True
theorem jJr.l0 : Lens jJr.rep jZy 0 (fun x => x.A) (fun x y => { x with A := y }) := (Lens.iso _ _ _ _).comp (Lens.fst _ _)
theorem jJr.l1 : Lens jJr.rep jZy 1 (fun x => x.B) (fun x y => { x with B := y }) := (Lens.iso _ _ _ _).comp ((Lens.snd _ _).comp (Lens.fst _ _))
theorem jJr.l2 : Lens jJr.rep jZy 2 (fun x => x.Reach) (fun x y => { x with Reach := y }) := (Lens.iso _ _ _ _).comp ((Lens.snd _ _).comp ((Lens.snd _ _).comp (Lens.fst _ _)))
structure jJu where
  Name : Str
  Kind : Int
  Space : Str
  From : Int
  To : Int
  Locks : (List Str)
def jJu.rep : Rep jJu := Rep.iso (Rep.prod Rep.str (Rep.prod jZy (Rep.prod Rep.str (Rep.prod jZy (Rep.prod jZy (Rep.prod (Rep.slice Rep.str) Rep.unit)))))) (fun s => (s.Name, (s.Kind, (s.Space, (s.From, (s.To, (s.Locks, ()))))))) (fun t => ⟨t.1, t.2.1, t.2.2.1, t.2.2.2.1, t.2.2.2.2.1, t.2.2.2.2.2.1⟩) (fun _ => rfl)
def jJu.ok (y : jJu) : Prop := gS y.Name ∧ (gI .i64) y.Kind ∧ gS y.Space ∧ (gI .i64) y.From ∧ (gI .i64) y.To ∧ (gL gS) y.Locks ∧ True
theorem jJu.l0 : Lens jJu.rep Rep.str 0 (fun x => x.Name) (fun x y => { x with Name := y }) := (Lens.iso _ _ _ _).comp (Lens.fst _ _)
theorem jJu.l1 : Lens jJu.rep jZy 1 (fun x => x.Kind) (fun x y => { x with Kind := y }) := (Lens.iso _ _ _ _).comp ((Lens.snd _ _).comp (Lens.fst _ _))
theorem jJu.l2 : Lens jJu.rep Rep.str 2 (fun x => x.Space) (fun x y => { x with Space := y }) := (Lens.iso _ _ _ _).comp ((Lens.snd _ _).comp ((Lens.snd _ _).comp (Lens.fst _ _)))
theorem jJu.l3 : Lens jJu.rep jZy 3 (fun x => x.From) (fun x y => { x with From := y }) := (Lens.iso _ _ _ _).comp ((Lens.snd _ _).comp ((Lens.snd _ _).comp ((Lens.snd _ _).comp (Lens.fst _ _))))
theorem jJu.l4 : Lens jJu.rep jZy 4 (fun x => x.To) (fun x y => { x with To := y }) := (Lens.iso _ _ _ _).comp ((Lens.snd _ _).comp ((Lens.snd _ _).comp ((Lens.snd _ _).comp ((Lens.snd _ _).comp (Lens.fst _ _)))))
theorem jJu.l5 : Lens jJu.rep (Rep.slice Rep.str) 5 (fun x => x.Locks) (fun x y => { x with Locks := y }) := (Lens.iso _ _ _ _).comp ((Lens.snd _ _).comp ((Lens.snd _ _).comp ((Lens.snd _ _).comp ((Lens.snd _ _).comp ((Lens.snd _ _).comp (Lens.fst _ _))))))
structure GPermitPlan where
  Spaces : (List jJ5)
  Exclusions : (List jJr)
  Permits : (List jJu)
  GasMinutes : Int
def GPermitPlan.rep : Rep GPermitPlan := Rep.iso (Rep.prod (Rep.slice jJ5.rep) (Rep.prod (Rep.slice jJr.rep) (Rep.prod (Rep.slice jJu.rep) (Rep.prod jZy Rep.unit)))) (fun s => (s.Spaces, (s.Exclusions, (s.Permits, (s.GasMinutes, ()))))) (fun t => ⟨t.1, t.2.1, t.2.2.1, t.2.2.2.1⟩) (fun _ => rfl)
def GPermitPlan.ok (y : GPermitPlan) : Prop := (gL jJ5.ok) y.Spaces ∧ (gL jJr.ok) y.Exclusions ∧ (gL jJu.ok) y.Permits ∧ (gI .i64) y.GasMinutes ∧ True
theorem GPermitPlan.l0 : Lens GPermitPlan.rep (Rep.slice jJ5.rep) 0 (fun x => x.Spaces) (fun x y => { x with Spaces := y }) := (Lens.iso _ _ _ _).comp (Lens.fst _ _)
theorem GPermitPlan.l1 : Lens GPermitPlan.rep (Rep.slice jJr.rep) 1 (fun x => x.Exclusions) (fun x y => { x with Exclusions := y }) := (Lens.iso _ _ _ _).comp ((Lens.snd _ _).comp (Lens.fst _ _))
theorem GPermitPlan.l2 : Lens GPermitPlan.rep (Rep.slice jJu.rep) 2 (fun x => x.Permits) (fun x y => { x with Permits := y }) := (Lens.iso _ _ _ _).comp ((Lens.snd _ _).comp ((Lens.snd _ _).comp (Lens.fst _ _)))
theorem GPermitPlan.l3 : Lens GPermitPlan.rep jZy 3 (fun x => x.GasMinutes) (fun x y => { x with GasMinutes := y }) := (Lens.iso _ _ _ _).comp ((Lens.snd _ _).comp ((Lens.snd _ _).comp ((Lens.snd _ _).comp (Lens.fst _ _))))
structure GEvent where
  At : Int
  Op : Int
  Name : Str
  Space : Str
  Person : Str
  Oxygen : Int
  Gas : Int
  To : Int
def GEvent.rep : Rep GEvent := Rep.iso (Rep.prod jZy (Rep.prod jZy (Rep.prod Rep.str (Rep.prod Rep.str (Rep.prod Rep.str (Rep.prod jZy (Rep.prod jZy (Rep.prod jZy Rep.unit)))))))) (fun s => (s.At, (s.Op, (s.Name, (s.Space, (s.Person, (s.Oxygen, (s.Gas, (s.To, ()))))))))) (fun t => ⟨t.1, t.2.1, t.2.2.1, t.2.2.2.1, t.2.2.2.2.1, t.2.2.2.2.2.1, t.2.2.2.2.2.2.1, t.2.2.2.2.2.2.2.1⟩) (fun _ => rfl)
def GEvent.ok (y : GEvent) : Prop := (gI .i64) y.At ∧ (gI .i64) y.Op ∧ gS y.Name ∧ gS y.Space ∧ gS y.Person ∧ (gI .i64) y.Oxygen ∧ (gI .i64) y.Gas ∧ (gI .i64) y.To ∧ True
theorem GEvent.l0 : Lens GEvent.rep jZy 0 (fun x => x.At) (fun x y => { x with At := y }) := (Lens.iso _ _ _ _).comp (Lens.fst _ _)
theorem GEvent.l1 : Lens GEvent.rep jZy 1 (fun x => x.Op) (fun x y => { x with Op := y }) := (Lens.iso _ _ _ _).comp ((Lens.snd _ _).comp (Lens.fst _ _))
theorem GEvent.l2 : Lens GEvent.rep Rep.str 2 (fun x => x.Name) (fun x y => { x with Name := y }) := (Lens.iso _ _ _ _).comp ((Lens.snd _ _).comp ((Lens.snd _ _).comp (Lens.fst _ _)))
theorem GEvent.l3 : Lens GEvent.rep Rep.str 3 (fun x => x.Space) (fun x y => { x with Space := y }) := (Lens.iso _ _ _ _).comp ((Lens.snd _ _).comp ((Lens.snd _ _).comp ((Lens.snd _ _).comp (Lens.fst _ _))))
theorem GEvent.l4 : Lens GEvent.rep Rep.str 4 (fun x => x.Person) (fun x y => { x with Person := y }) := (Lens.iso _ _ _ _).comp ((Lens.snd _ _).comp ((Lens.snd _ _).comp ((Lens.snd _ _).comp ((Lens.snd _ _).comp (Lens.fst _ _)))))
theorem GEvent.l5 : Lens GEvent.rep jZy 5 (fun x => x.Oxygen) (fun x y => { x with Oxygen := y }) := (Lens.iso _ _ _ _).comp ((Lens.snd _ _).comp ((Lens.snd _ _).comp ((Lens.snd _ _).comp ((Lens.snd _ _).comp ((Lens.snd _ _).comp (Lens.fst _ _))))))
theorem GEvent.l6 : Lens GEvent.rep jZy 6 (fun x => x.Gas) (fun x y => { x with Gas := y }) := (Lens.iso _ _ _ _).comp ((Lens.snd _ _).comp ((Lens.snd _ _).comp ((Lens.snd _ _).comp ((Lens.snd _ _).comp ((Lens.snd _ _).comp ((Lens.snd _ _).comp (Lens.fst _ _)))))))
theorem GEvent.l7 : Lens GEvent.rep jZy 7 (fun x => x.To) (fun x y => { x with To := y }) := (Lens.iso _ _ _ _).comp ((Lens.snd _ _).comp ((Lens.snd _ _).comp ((Lens.snd _ _).comp ((Lens.snd _ _).comp ((Lens.snd _ _).comp ((Lens.snd _ _).comp ((Lens.snd _ _).comp (Lens.fst _ _))))))))
structure jJx where
  plan : GPermitPlan
  now : Int
  done : (List GEvent)
def jJx.rep : Rep (jJx × Value × Value × Value) := Rep.iso (Rep.prod GPermitPlan.rep (Rep.prod jZy (Rep.prod Rep.rawM (Rep.prod Rep.rawM (Rep.prod Rep.rawM (Rep.prod (Rep.slice GEvent.rep) Rep.unit)))))) (fun s => (s.1.plan, (s.1.now, (s.2.1, (s.2.2.1, (s.2.2.2, (s.1.done, ()))))))) (fun t => (⟨t.1, t.2.1, t.2.2.2.2.2.1⟩, t.2.2.1, t.2.2.2.1, t.2.2.2.2.1)) (fun _ => rfl)
theorem jJx.l0 : Lens jJx.rep GPermitPlan.rep 0 (fun x => x.1.plan) (fun x y => ({ x.1 with plan := y }, x.2)) := (Lens.iso _ _ _ _).comp (Lens.fst _ _)
theorem jJx.l1 : Lens jJx.rep jZy 4 (fun x => x.1.now) (fun x y => ({ x.1 with now := y }, x.2)) := (Lens.iso _ _ _ _).comp ((Lens.snd _ _).comp (Lens.fst _ _))
theorem jJx.l2 : Lens jJx.rep Rep.rawM 5 (fun x => x.2.1) (fun x y => (x.1, y, x.2.2.1, x.2.2.2)) := (Lens.iso _ _ _ _).comp ((Lens.snd _ _).comp ((Lens.snd _ _).comp (Lens.fst _ _)))
theorem jJx.l3 : Lens jJx.rep Rep.rawM 6 (fun x => x.2.2.1) (fun x y => (x.1, x.2.1, y, x.2.2.2)) := (Lens.iso _ _ _ _).comp ((Lens.snd _ _).comp ((Lens.snd _ _).comp ((Lens.snd _ _).comp (Lens.fst _ _))))
theorem jJx.l4 : Lens jJx.rep Rep.rawM 7 (fun x => x.2.2.2) (fun x y => (x.1, x.2.1, x.2.2.1, y)) := (Lens.iso _ _ _ _).comp ((Lens.snd _ _).comp ((Lens.snd _ _).comp ((Lens.snd _ _).comp ((Lens.snd _ _).comp (Lens.fst _ _)))))
theorem jJx.l5 : Lens jJx.rep (Rep.slice GEvent.rep) 8 (fun x => x.1.done) (fun x y => ({ x.1 with done := y }, x.2)) := (Lens.iso _ _ _ _).comp ((Lens.snd _ _).comp ((Lens.snd _ _).comp ((Lens.snd _ _).comp ((Lens.snd _ _).comp ((Lens.snd _ _).comp (Lens.fst _ _))))))
structure jJq where
  state : Int
  by_ : Str
  to_ : Int
def jJq.rep : Rep jJq := Rep.iso (Rep.prod jZy (Rep.prod Rep.str (Rep.prod jZy Rep.unit))) (fun s => (s.state, (s.by_, (s.to_, ())))) (fun t => ⟨t.1, t.2.1, t.2.2.1⟩) (fun _ => rfl)
def jJq.ok (y : jJq) : Prop := (gI .i64) y.state ∧ gS y.by_ ∧ (gI .i64) y.to_ ∧ True
theorem jJq.l0 : Lens jJq.rep jZy 0 (fun x => x.state) (fun x y => { x with state := y }) := (Lens.iso _ _ _ _).comp (Lens.fst _ _)
theorem jJq.l1 : Lens jJq.rep Rep.str 1 (fun x => x.by_) (fun x y => { x with by_ := y }) := (Lens.iso _ _ _ _).comp ((Lens.snd _ _).comp (Lens.fst _ _))
theorem jJq.l2 : Lens jJq.rep jZy 2 (fun x => x.to_) (fun x y => { x with to_ := y }) := (Lens.iso _ _ _ _).comp ((Lens.snd _ _).comp ((Lens.snd _ _).comp (Lens.fst _ _)))
structure jJv where
  at_ : Int
  oxygen : Int
  gas : Int
def jJv.rep : Rep jJv := Rep.iso (Rep.prod jZy (Rep.prod jZy (Rep.prod jZy Rep.unit))) (fun s => (s.at_, (s.oxygen, (s.gas, ())))) (fun t => ⟨t.1, t.2.1, t.2.2.1⟩) (fun _ => rfl)
def jJv.ok (y : jJv) : Prop := (gI .i64) y.at_ ∧ (gI .i64) y.oxygen ∧ (gI .i64) y.gas ∧ True
theorem jJv.l0 : Lens jJv.rep jZy 0 (fun x => x.at_) (fun x y => { x with at_ := y }) := (Lens.iso _ _ _ _).comp (Lens.fst _ _)
theorem jJv.l1 : Lens jJv.rep jZy 1 (fun x => x.oxygen) (fun x y => { x with oxygen := y }) := (Lens.iso _ _ _ _).comp ((Lens.snd _ _).comp (Lens.fst _ _))
theorem jJv.l2 : Lens jJv.rep jZy 2 (fun x => x.gas) (fun x y => { x with gas := y }) := (Lens.iso _ _ _ _).comp ((Lens.snd _ _).comp ((Lens.snd _ _).comp (Lens.fst _ _)))
structure jJb where
  word : Str
  fields : Str
  states : (List Int)
  do_ : (Option Nat)
def jJb.rep : Rep jJb := Rep.iso (Rep.prod Rep.str (Rep.prod Rep.str (Rep.prod (Rep.sliceE jZy) (Rep.prod Rep.fnum Rep.unit)))) (fun s => (s.word, (s.fields, (s.states, (s.do_, ()))))) (fun t => ⟨t.1, t.2.1, t.2.2.1, t.2.2.2.1⟩) (fun _ => rfl)
theorem jJb.l0 : Lens jJb.rep Rep.str 0 (fun x => x.word) (fun x y => { x with word := y }) := (Lens.iso _ _ _ _).comp (Lens.fst _ _)
theorem jJb.l1 : Lens jJb.rep Rep.str 1 (fun x => x.fields) (fun x y => { x with fields := y }) := (Lens.iso _ _ _ _).comp ((Lens.snd _ _).comp (Lens.fst _ _))
theorem jJb.l2 : Lens jJb.rep (Rep.sliceE jZy) 2 (fun x => x.states) (fun x y => { x with states := y }) := (Lens.iso _ _ _ _).comp ((Lens.snd _ _).comp ((Lens.snd _ _).comp (Lens.fst _ _)))
theorem jJb.l3 : Lens jJb.rep Rep.fnum 3 (fun x => x.do_) (fun x y => { x with do_ := y }) := (Lens.iso _ _ _ _).comp ((Lens.snd _ _).comp ((Lens.snd _ _).comp ((Lens.snd _ _).comp (Lens.fst _ _))))
structure jJw where
  names : (List Str)
  e : Int
def jJw.rep : Rep jJw := Rep.iso (Rep.prod (Rep.slice Rep.str) (Rep.prod jZy Rep.unit)) (fun s => (s.names, (s.e, ()))) (fun t => ⟨t.1, t.2.1⟩) (fun _ => rfl)
def jJw.ok (y : jJw) : Prop := (gL gS) y.names ∧ (gI .i64) y.e ∧ True
theorem jJw.l0 : Lens jJw.rep (Rep.slice Rep.str) 0 (fun x => x.names) (fun x y => { x with names := y }) := (Lens.iso _ _ _ _).comp (Lens.fst _ _)
theorem jJw.l1 : Lens jJw.rep jZy 1 (fun x => x.e) (fun x y => { x with e := y }) := (Lens.iso _ _ _ _).comp ((Lens.snd _ _).comp (Lens.fst _ _))
structure jJ8 where
  Err : Int
  Names : (List Str)
def jJ8.rep : Rep jJ8 := Rep.iso (Rep.prod jZy (Rep.prod (Rep.slice Rep.str) Rep.unit)) (fun s => (s.Err, (s.Names, ()))) (fun t => ⟨t.1, t.2.1⟩) (fun _ => rfl)
def jJ8.ok (y : jJ8) : Prop := (gI .i64) y.Err ∧ (gL gS) y.Names ∧ True
theorem jJ8.l0 : Lens jJ8.rep jZy 0 (fun x => x.Err) (fun x y => { x with Err := y }) := (Lens.iso _ _ _ _).comp (Lens.fst _ _)
theorem jJ8.l1 : Lens jJ8.rep (Rep.slice Rep.str) 1 (fun x => x.Names) (fun x y => { x with Names := y }) := (Lens.iso _ _ _ _).comp ((Lens.snd _ _).comp (Lens.fst _ _))
abbrev jJf := jJ5.rep
abbrev jJc := jJr.rep
abbrev jJz := jJu.rep
abbrev jJj := GPermitPlan.rep
abbrev jJt := GEvent.rep
abbrev jJl := jJx.rep
abbrev jJg := jJq.rep
abbrev jJa := jJv.rep
abbrev jQx := jJb.rep
abbrev jJk := jJw.rep
abbrev jXg := jJ8.rep
abbrev oO0 (k : Nat) (g : jJx) (a2 a3 a4 v : Value) (x2 : (List (Str × jJq))) (x3 : (List (Str × jJv))) (x4 : (List (Str × Str))) : List (Nat × jVw) := [(k, atV (jWv 110 jJx.rep (g, a2, a3, a4) ([⟨8, 45, GEvent.rep.sz⟩] : List jV8)) v), (k + 1, atV (jQ6 jQ4 jJq.rep x2) a2), (k + 2, atV (jQ6 jQ4 jJv.rep x3) a3), (k + 3, atV (jQ6 jQ4 Rep.str x4) a4)]
abbrev oP0 (k : Nat) (g : jJx) (a2 a3 a4 v : Value) (x2 : (List (Str × jJq))) (x3 : (List (Str × jJv))) (x4 : (List (Str × Str))) : List (Nat × jVw) := [(k, atV (jWv 110 jJx.rep (g, a2, a3, a4) ([] : List jV8)) v), (k + 1, atV (jQ6 jQ4 jJq.rep x2) a2), (k + 2, atV (jQ6 jQ4 jJv.rep x3) a3), (k + 3, atV (jQ6 jQ4 Rep.str x4) a4)]
end Go.KB
