/- Go's types as Lean types. Printed by a program. No condition. -/
import Derived.Test.YtblfmjackdhajaaKOff
import Derived.Test.YtblfmjackdhajaaKZg
namespace Go.KB
abbrev r_i8 : Rep Int := Rep.int .i8
abbrev r_i16 : Rep Int := Rep.int .i16
abbrev r_i32 : Rep Int := Rep.int .i32
abbrev jJa : Rep Int := Rep.int .i64
abbrev jY0 : Rep Int := Rep.int .u8
abbrev r_u16 : Rep Int := Rep.int .u16
abbrev r_u32 : Rep Int := Rep.int .u32
abbrev r_u64 : Rep Int := Rep.int .u64
structure GSetting where
  Key : Str
  Value : Str
def GSetting.rep : Rep GSetting := Rep.iso (Rep.prod Rep.str (Rep.prod Rep.str Rep.unit)) (fun s => (s.Key, (s.Value, ()))) (fun t => ⟨t.1, t.2.1⟩) (fun _ => rfl)
def GSetting.ok (y : GSetting) : Prop := gS y.Key ∧ gS y.Value ∧ True
theorem GSetting.l0 : Lens GSetting.rep Rep.str 0 (fun x => x.Key) (fun x y => { x with Key := y }) := (Lens.iso _ _ _ _).comp (Lens.fst _ _)
theorem GSetting.l1 : Lens GSetting.rep Rep.str 1 (fun x => x.Value) (fun x y => { x with Value := y }) := (Lens.iso _ _ _ _).comp ((Lens.snd _ _).comp (Lens.fst _ _))
def GSetting.eqb (x y : GSetting) : Bool := ((x.Key == y.Key) && ((x.Value == y.Value) && true))
structure jJ1 where
  Op : Int
  Day : Int
  Order : Str
  Item : Str
  Ship : Str
  Who : Str
  Amount : Int
  Ref : Int
  Role : Int
def jJ1.rep : Rep jJ1 := Rep.iso (Rep.prod jJa (Rep.prod jJa (Rep.prod Rep.str (Rep.prod Rep.str (Rep.prod Rep.str (Rep.prod Rep.str (Rep.prod jJa (Rep.prod jJa (Rep.prod jJa Rep.unit))))))))) (fun s => (s.Op, (s.Day, (s.Order, (s.Item, (s.Ship, (s.Who, (s.Amount, (s.Ref, (s.Role, ())))))))))) (fun t => ⟨t.1, t.2.1, t.2.2.1, t.2.2.2.1, t.2.2.2.2.1, t.2.2.2.2.2.1, t.2.2.2.2.2.2.1, t.2.2.2.2.2.2.2.1, t.2.2.2.2.2.2.2.2.1⟩) (fun _ => rfl)
def jJ1.ok (y : jJ1) : Prop := (gI .i64) y.Op ∧ (gI .i64) y.Day ∧ gS y.Order ∧ gS y.Item ∧ gS y.Ship ∧ gS y.Who ∧ (gI .i64) y.Amount ∧ (gI .i64) y.Ref ∧ (gI .i64) y.Role ∧ True
theorem jJ1.l0 : Lens jJ1.rep jJa 0 (fun x => x.Op) (fun x y => { x with Op := y }) := (Lens.iso _ _ _ _).comp (Lens.fst _ _)
theorem jJ1.l1 : Lens jJ1.rep jJa 1 (fun x => x.Day) (fun x y => { x with Day := y }) := (Lens.iso _ _ _ _).comp ((Lens.snd _ _).comp (Lens.fst _ _))
theorem jJ1.l2 : Lens jJ1.rep Rep.str 2 (fun x => x.Order) (fun x y => { x with Order := y }) := (Lens.iso _ _ _ _).comp ((Lens.snd _ _).comp ((Lens.snd _ _).comp (Lens.fst _ _)))
theorem jJ1.l3 : Lens jJ1.rep Rep.str 3 (fun x => x.Item) (fun x y => { x with Item := y }) := (Lens.iso _ _ _ _).comp ((Lens.snd _ _).comp ((Lens.snd _ _).comp ((Lens.snd _ _).comp (Lens.fst _ _))))
theorem jJ1.l4 : Lens jJ1.rep Rep.str 4 (fun x => x.Ship) (fun x y => { x with Ship := y }) := (Lens.iso _ _ _ _).comp ((Lens.snd _ _).comp ((Lens.snd _ _).comp ((Lens.snd _ _).comp ((Lens.snd _ _).comp (Lens.fst _ _)))))
theorem jJ1.l5 : Lens jJ1.rep Rep.str 5 (fun x => x.Who) (fun x y => { x with Who := y }) := (Lens.iso _ _ _ _).comp ((Lens.snd _ _).comp ((Lens.snd _ _).comp ((Lens.snd _ _).comp ((Lens.snd _ _).comp ((Lens.snd _ _).comp (Lens.fst _ _))))))
theorem jJ1.l6 : Lens jJ1.rep jJa 6 (fun x => x.Amount) (fun x y => { x with Amount := y }) := (Lens.iso _ _ _ _).comp ((Lens.snd _ _).comp ((Lens.snd _ _).comp ((Lens.snd _ _).comp ((Lens.snd _ _).comp ((Lens.snd _ _).comp ((Lens.snd _ _).comp (Lens.fst _ _)))))))
theorem jJ1.l7 : Lens jJ1.rep jJa 7 (fun x => x.Ref) (fun x y => { x with Ref := y }) := (Lens.iso _ _ _ _).comp ((Lens.snd _ _).comp ((Lens.snd _ _).comp ((Lens.snd _ _).comp ((Lens.snd _ _).comp ((Lens.snd _ _).comp ((Lens.snd _ _).comp ((Lens.snd _ _).comp (Lens.fst _ _))))))))
theorem jJ1.l8 : Lens jJ1.rep jJa 8 (fun x => x.Role) (fun x y => { x with Role := y }) := (Lens.iso _ _ _ _).comp ((Lens.snd _ _).comp ((Lens.snd _ _).comp ((Lens.snd _ _).comp ((Lens.snd _ _).comp ((Lens.snd _ _).comp ((Lens.snd _ _).comp ((Lens.snd _ _).comp ((Lens.snd _ _).comp (Lens.fst _ _)))))))))
def jJ1.gS (y : jJ1) (n : Nat) : Option Str := bif Nat.beq n 2 then some y.Order else bif Nat.beq n 3 then some y.Item else bif Nat.beq n 4 then some y.Ship else bif Nat.beq n 5 then some y.Who else none
def jJ1.sS (y : jJ1) (n : Nat) (z : Str) : Option jJ1 := bif Nat.beq n 2 then some { y with Order := z } else bif Nat.beq n 3 then some { y with Item := z } else bif Nat.beq n 4 then some { y with Ship := z } else bif Nat.beq n 5 then some { y with Who := z } else none
theorem jJ1.dgS : jCb jJ1.rep Rep.str jJ1.gS jJ1.sS := (.cons jJ1.l2 (.cons jJ1.l3 (.cons jJ1.l4 (.cons jJ1.l5 jCb.nil))))
def jJ1.gI (y : jJ1) (n : Nat) : Option Int := bif Nat.beq n 0 then some y.Op else bif Nat.beq n 1 then some y.Day else bif Nat.beq n 6 then some y.Amount else bif Nat.beq n 7 then some y.Ref else bif Nat.beq n 8 then some y.Role else none
def jJ1.sI (y : jJ1) (n : Nat) (z : Int) : Option jJ1 := bif Nat.beq n 0 then some { y with Op := z } else bif Nat.beq n 1 then some { y with Day := z } else bif Nat.beq n 6 then some { y with Amount := z } else bif Nat.beq n 7 then some { y with Ref := z } else bif Nat.beq n 8 then some { y with Role := z } else none
theorem jJ1.dgI : jCb jJ1.rep jJa jJ1.gI jJ1.sI := (.cons jJ1.l0 (.cons jJ1.l1 (.cons jJ1.l6 (.cons jJ1.l7 (.cons jJ1.l8 jCb.nil)))))
structure jJv where
  posts : (List jJ1)
def jJv.rep : Rep (jJv × Value × Value × Value) := Rep.iso (Rep.prod (Rep.slice jJ1.rep) (Rep.prod Rep.rawM (Rep.prod Rep.rawM (Rep.prod Rep.rawM Rep.unit)))) (fun s => (s.1.posts, (s.2.1, (s.2.2.1, (s.2.2.2, ()))))) (fun t => (⟨t.1⟩, t.2.1, t.2.2.1, t.2.2.2.1)) (fun _ => rfl)
theorem jJv.l0 : Lens jJv.rep (Rep.slice jJ1.rep) 0 (fun x => x.1.posts) (fun x y => ({ x.1 with posts := y }, x.2)) := (Lens.iso _ _ _ _).comp (Lens.fst _ _)
theorem jJv.l1 : Lens jJv.rep Rep.rawM 1 (fun x => x.2.1) (fun x y => (x.1, y, x.2.2.1, x.2.2.2)) := (Lens.iso _ _ _ _).comp ((Lens.snd _ _).comp (Lens.fst _ _))
theorem jJv.l2 : Lens jJv.rep Rep.rawM 2 (fun x => x.2.2.1) (fun x y => (x.1, x.2.1, y, x.2.2.2)) := (Lens.iso _ _ _ _).comp ((Lens.snd _ _).comp ((Lens.snd _ _).comp (Lens.fst _ _)))
theorem jJv.l3 : Lens jJv.rep Rep.rawM 3 (fun x => x.2.2.2) (fun x y => (x.1, x.2.1, x.2.2.1, y)) := (Lens.iso _ _ _ _).comp ((Lens.snd _ _).comp ((Lens.snd _ _).comp ((Lens.snd _ _).comp (Lens.fst _ _))))
structure jJy where
  order : Str
  item : Str
def jJy.rep : Rep jJy := Rep.iso (Rep.prod Rep.str (Rep.prod Rep.str Rep.unit)) (fun s => (s.order, (s.item, ()))) (fun t => ⟨t.1, t.2.1⟩) (fun _ => rfl)
def jJy.ok (y : jJy) : Prop := gS y.order ∧ gS y.item ∧ True
theorem jJy.l0 : Lens jJy.rep Rep.str 0 (fun x => x.order) (fun x y => { x with order := y }) := (Lens.iso _ _ _ _).comp (Lens.fst _ _)
theorem jJy.l1 : Lens jJy.rep Rep.str 1 (fun x => x.item) (fun x y => { x with item := y }) := (Lens.iso _ _ _ _).comp ((Lens.snd _ _).comp (Lens.fst _ _))
def jJy.eqb (x y : jJy) : Bool := ((x.order == y.order) && ((x.item == y.item) && true))
instance : DecidableEq jJy
  | ⟨a0, a1⟩, ⟨b0, b1⟩ => if h : a0 = b0 ∧ a1 = b1 then isTrue (by obtain ⟨rfl, rfl⟩ := h; rfl) else isFalse (fun e => by cases e; exact h ⟨rfl, rfl⟩)
def jQx (x : jJy) : Value := .agg #[jJc x.order, jJc x.item]
structure jJg where
  text : (Option Nat)
  number : (Option Nat)
  low : Int
  high : Int
def jJg.rep (sv : Value) : Rep jJg := Rep.iso (Rep.prod (Rep.poff sv) (Rep.prod (Rep.poff sv) (Rep.prod jJa (Rep.prod jJa Rep.unit)))) (fun s => (s.text, (s.number, (s.low, (s.high, ()))))) (fun t => ⟨t.1, t.2.1, t.2.2.1, t.2.2.2.1⟩) (fun _ => rfl)
theorem jJg.l0 {sv : Value} : Lens (jJg.rep sv) (Rep.poff sv) 0 (fun x => x.text) (fun x y => { x with text := y }) := (Lens.iso _ _ _ _).comp (Lens.fst _ _)
theorem jJg.l1 {sv : Value} : Lens (jJg.rep sv) (Rep.poff sv) 1 (fun x => x.number) (fun x y => { x with number := y }) := (Lens.iso _ _ _ _).comp ((Lens.snd _ _).comp (Lens.fst _ _))
theorem jJg.l2 {sv : Value} : Lens (jJg.rep sv) jJa 2 (fun x => x.low) (fun x y => { x with low := y }) := (Lens.iso _ _ _ _).comp ((Lens.snd _ _).comp ((Lens.snd _ _).comp (Lens.fst _ _)))
theorem jJg.l3 {sv : Value} : Lens (jJg.rep sv) jJa 3 (fun x => x.high) (fun x y => { x with high := y }) := (Lens.iso _ _ _ _).comp ((Lens.snd _ _).comp ((Lens.snd _ _).comp ((Lens.snd _ _).comp (Lens.fst _ _))))
structure jJz where
  Estimate : Int
  Growth : Int
  Charged : Int
  Billed : Int
  Paid : Int
  Due : Int
def jJz.rep : Rep jJz := Rep.iso (Rep.prod jJa (Rep.prod jJa (Rep.prod jJa (Rep.prod jJa (Rep.prod jJa (Rep.prod jJa Rep.unit)))))) (fun s => (s.Estimate, (s.Growth, (s.Charged, (s.Billed, (s.Paid, (s.Due, ()))))))) (fun t => ⟨t.1, t.2.1, t.2.2.1, t.2.2.2.1, t.2.2.2.2.1, t.2.2.2.2.2.1⟩) (fun _ => rfl)
def jJz.ok (y : jJz) : Prop := (gI .i64) y.Estimate ∧ (gI .i64) y.Growth ∧ (gI .i64) y.Charged ∧ (gI .i64) y.Billed ∧ (gI .i64) y.Paid ∧ (gI .i64) y.Due ∧ True
theorem jJz.l0 : Lens jJz.rep jJa 0 (fun x => x.Estimate) (fun x y => { x with Estimate := y }) := (Lens.iso _ _ _ _).comp (Lens.fst _ _)
theorem jJz.l1 : Lens jJz.rep jJa 1 (fun x => x.Growth) (fun x y => { x with Growth := y }) := (Lens.iso _ _ _ _).comp ((Lens.snd _ _).comp (Lens.fst _ _))
theorem jJz.l2 : Lens jJz.rep jJa 2 (fun x => x.Charged) (fun x y => { x with Charged := y }) := (Lens.iso _ _ _ _).comp ((Lens.snd _ _).comp ((Lens.snd _ _).comp (Lens.fst _ _)))
theorem jJz.l3 : Lens jJz.rep jJa 3 (fun x => x.Billed) (fun x y => { x with Billed := y }) := (Lens.iso _ _ _ _).comp ((Lens.snd _ _).comp ((Lens.snd _ _).comp ((Lens.snd _ _).comp (Lens.fst _ _))))
theorem jJz.l4 : Lens jJz.rep jJa 4 (fun x => x.Paid) (fun x y => { x with Paid := y }) := (Lens.iso _ _ _ _).comp ((Lens.snd _ _).comp ((Lens.snd _ _).comp ((Lens.snd _ _).comp ((Lens.snd _ _).comp (Lens.fst _ _)))))
theorem jJz.l5 : Lens jJz.rep jJa 5 (fun x => x.Due) (fun x y => { x with Due := y }) := (Lens.iso _ _ _ _).comp ((Lens.snd _ _).comp ((Lens.snd _ _).comp ((Lens.snd _ _).comp ((Lens.snd _ _).comp ((Lens.snd _ _).comp (Lens.fst _ _))))))
def jJz.eqb (x y : jJz) : Bool := ((x.Estimate == y.Estimate) && ((x.Growth == y.Growth) && ((x.Charged == y.Charged) && ((x.Billed == y.Billed) && ((x.Paid == y.Paid) && ((x.Due == y.Due) && true))))))
structure jQv where
  Item : Str
  Estimate : Int
  Growth : Int
  Charged : Int
  Signed : Int
  Billed : Int
  Over : Int
def jQv.rep : Rep jQv := Rep.iso (Rep.prod Rep.str (Rep.prod jJa (Rep.prod jJa (Rep.prod jJa (Rep.prod jJa (Rep.prod jJa (Rep.prod jJa Rep.unit))))))) (fun s => (s.Item, (s.Estimate, (s.Growth, (s.Charged, (s.Signed, (s.Billed, (s.Over, ())))))))) (fun t => ⟨t.1, t.2.1, t.2.2.1, t.2.2.2.1, t.2.2.2.2.1, t.2.2.2.2.2.1, t.2.2.2.2.2.2.1⟩) (fun _ => rfl)
def jQv.ok (y : jQv) : Prop := gS y.Item ∧ (gI .i64) y.Estimate ∧ (gI .i64) y.Growth ∧ (gI .i64) y.Charged ∧ (gI .i64) y.Signed ∧ (gI .i64) y.Billed ∧ (gI .i64) y.Over ∧ True
theorem jQv.l0 : Lens jQv.rep Rep.str 0 (fun x => x.Item) (fun x y => { x with Item := y }) := (Lens.iso _ _ _ _).comp (Lens.fst _ _)
theorem jQv.l1 : Lens jQv.rep jJa 1 (fun x => x.Estimate) (fun x y => { x with Estimate := y }) := (Lens.iso _ _ _ _).comp ((Lens.snd _ _).comp (Lens.fst _ _))
theorem jQv.l2 : Lens jQv.rep jJa 2 (fun x => x.Growth) (fun x y => { x with Growth := y }) := (Lens.iso _ _ _ _).comp ((Lens.snd _ _).comp ((Lens.snd _ _).comp (Lens.fst _ _)))
theorem jQv.l3 : Lens jQv.rep jJa 3 (fun x => x.Charged) (fun x y => { x with Charged := y }) := (Lens.iso _ _ _ _).comp ((Lens.snd _ _).comp ((Lens.snd _ _).comp ((Lens.snd _ _).comp (Lens.fst _ _))))
theorem jQv.l4 : Lens jQv.rep jJa 4 (fun x => x.Signed) (fun x y => { x with Signed := y }) := (Lens.iso _ _ _ _).comp ((Lens.snd _ _).comp ((Lens.snd _ _).comp ((Lens.snd _ _).comp ((Lens.snd _ _).comp (Lens.fst _ _)))))
theorem jQv.l5 : Lens jQv.rep jJa 5 (fun x => x.Billed) (fun x y => { x with Billed := y }) := (Lens.iso _ _ _ _).comp ((Lens.snd _ _).comp ((Lens.snd _ _).comp ((Lens.snd _ _).comp ((Lens.snd _ _).comp ((Lens.snd _ _).comp (Lens.fst _ _))))))
theorem jQv.l6 : Lens jQv.rep jJa 6 (fun x => x.Over) (fun x y => { x with Over := y }) := (Lens.iso _ _ _ _).comp ((Lens.snd _ _).comp ((Lens.snd _ _).comp ((Lens.snd _ _).comp ((Lens.snd _ _).comp ((Lens.snd _ _).comp ((Lens.snd _ _).comp (Lens.fst _ _)))))))
structure jJq where
  value : Str
  has : Bool
def jJq.rep : Rep jJq := Rep.iso (Rep.prod Rep.str (Rep.prod Rep.bool Rep.unit)) (fun s => (s.value, (s.has, ()))) (fun t => ⟨t.1, t.2.1⟩) (fun _ => rfl)
def jJq.ok (y : jJq) : Prop := gS y.value ∧ (fun _ => True) y.has ∧ True
theorem jJq.l0 : Lens jJq.rep Rep.str 0 (fun x => x.value) (fun x y => { x with value := y }) := (Lens.iso _ _ _ _).comp (Lens.fst _ _)
theorem jJq.l1 : Lens jJq.rep Rep.bool 1 (fun x => x.has) (fun x y => { x with has := y }) := (Lens.iso _ _ _ _).comp ((Lens.snd _ _).comp (Lens.fst _ _))
def jJq.eqb (x y : jJq) : Bool := ((x.value == y.value) && ((x.has == y.has) && true))
structure jQp where
  Key : Str
  Old : Str
  New : Str
  Had : Bool
  Has : Bool
def jQp.rep : Rep jQp := Rep.iso (Rep.prod Rep.str (Rep.prod Rep.str (Rep.prod Rep.str (Rep.prod Rep.bool (Rep.prod Rep.bool Rep.unit))))) (fun s => (s.Key, (s.Old, (s.New, (s.Had, (s.Has, ())))))) (fun t => ⟨t.1, t.2.1, t.2.2.1, t.2.2.2.1, t.2.2.2.2.1⟩) (fun _ => rfl)
def jQp.ok (y : jQp) : Prop := gS y.Key ∧ gS y.Old ∧ gS y.New ∧ (fun _ => True) y.Had ∧ (fun _ => True) y.Has ∧ True
theorem jQp.l0 : Lens jQp.rep Rep.str 0 (fun x => x.Key) (fun x y => { x with Key := y }) := (Lens.iso _ _ _ _).comp (Lens.fst _ _)
theorem jQp.l1 : Lens jQp.rep Rep.str 1 (fun x => x.Old) (fun x y => { x with Old := y }) := (Lens.iso _ _ _ _).comp ((Lens.snd _ _).comp (Lens.fst _ _))
theorem jQp.l2 : Lens jQp.rep Rep.str 2 (fun x => x.New) (fun x y => { x with New := y }) := (Lens.iso _ _ _ _).comp ((Lens.snd _ _).comp ((Lens.snd _ _).comp (Lens.fst _ _)))
theorem jQp.l3 : Lens jQp.rep Rep.bool 3 (fun x => x.Had) (fun x y => { x with Had := y }) := (Lens.iso _ _ _ _).comp ((Lens.snd _ _).comp ((Lens.snd _ _).comp ((Lens.snd _ _).comp (Lens.fst _ _))))
theorem jQp.l4 : Lens jQp.rep Rep.bool 4 (fun x => x.Has) (fun x y => { x with Has := y }) := (Lens.iso _ _ _ _).comp ((Lens.snd _ _).comp ((Lens.snd _ _).comp ((Lens.snd _ _).comp ((Lens.snd _ _).comp (Lens.fst _ _)))))
def jQp.eqb (x y : jQp) : Bool := ((x.Key == y.Key) && ((x.Old == y.Old) && ((x.New == y.New) && ((x.Had == y.Had) && ((x.Has == y.Has) && true)))))
abbrev jJx := GSetting.rep
abbrev jJf := jJ1.rep
abbrev jJb := jJv.rep
abbrev jH9 := jJy.rep
abbrev jJk := jJg.rep
abbrev jJn := jJz.rep
abbrev jJr := jQv.rep
abbrev jJj := jJq.rep
abbrev jJ4 := jQp.rep
abbrev oO0 (k : Nat) (g : jJv) (a1 a2 a3 v : Value) (x1 : (List (Str × Int))) (x2 : (List (jJy × Int))) (x3 : (List (Int × Bool))) : List (Nat × jXe) := [(k, atV (jZq 73 jJv.rep (g, a1, a2, a3) ([⟨0, 46, jJ1.rep.sz⟩] : List jXm)) v), (k + 1, atV (jJp jJc jJa x1) a1), (k + 2, atV (jJp jQx jJa x2) a2), (k + 3, atV (jJp (jV5 .i64) Rep.bool x3) a3)]
abbrev oP0 (k : Nat) (g : jJv) (a1 a2 a3 v : Value) (x1 : (List (Str × Int))) (x2 : (List (jJy × Int))) (x3 : (List (Int × Bool))) : List (Nat × jXe) := [(k, atV (jZq 73 jJv.rep (g, a1, a2, a3) ([] : List jXm)) v), (k + 1, atV (jJp jJc jJa x1) a1), (k + 2, atV (jJp jQx jJa x2) a2), (k + 3, atV (jJp (jV5 .i64) Rep.bool x3) a3)]
end Go.KB
