/- Go's types as Lean types. Printed by a program. No condition. -/
import Derived.Test.YtipapjkpbnjkmaaGreatDoorKOff
import Derived.Test.YtipapjkpbnjkmaaGreatDoorKZg
import Derived.Test.YtipapjkpbnjkmaaGreatDoorKDk
namespace Go.KB
abbrev r_i8 : Rep Int := Rep.int .i8
abbrev r_i16 : Rep Int := Rep.int .i16
abbrev jDd : Rep Int := Rep.int .i32
abbrev jJy : Rep Int := Rep.int .i64
abbrev jHq : Rep Int := Rep.int .u8
abbrev r_u16 : Rep Int := Rep.int .u16
abbrev r_u32 : Rep Int := Rep.int .u32
abbrev r_u64 : Rep Int := Rep.int .u64
structure jJu where
  Op : Int
  Day : Int
  Order : Str
  Item : Str
  Ship : Str
  Who : Str
  Amount : Int
  Ref : Int
  Role : Int
def jJu.rep : Rep jJu := Rep.iso (Rep.prod jJy (Rep.prod jJy (Rep.prod Rep.str (Rep.prod Rep.str (Rep.prod Rep.str (Rep.prod Rep.str (Rep.prod jJy (Rep.prod jJy (Rep.prod jJy Rep.unit))))))))) (fun s => (s.Op, (s.Day, (s.Order, (s.Item, (s.Ship, (s.Who, (s.Amount, (s.Ref, (s.Role, ())))))))))) (fun t => ⟨t.1, t.2.1, t.2.2.1, t.2.2.2.1, t.2.2.2.2.1, t.2.2.2.2.2.1, t.2.2.2.2.2.2.1, t.2.2.2.2.2.2.2.1, t.2.2.2.2.2.2.2.2.1⟩) (fun _ => rfl)
def jJu.ok (y : jJu) : Prop := (gI .i64) y.Op ∧ (gI .i64) y.Day ∧ gS y.Order ∧ gS y.Item ∧ gS y.Ship ∧ gS y.Who ∧ (gI .i64) y.Amount ∧ (gI .i64) y.Ref ∧ (gI .i64) y.Role ∧ True
theorem jJu.l0 : Lens jJu.rep jJy 0 (fun x => x.Op) (fun x y => { x with Op := y }) := (Lens.iso _ _ _ _).comp (Lens.fst _ _)
theorem jJu.l1 : Lens jJu.rep jJy 1 (fun x => x.Day) (fun x y => { x with Day := y }) := (Lens.iso _ _ _ _).comp ((Lens.snd _ _).comp (Lens.fst _ _))
theorem jJu.l2 : Lens jJu.rep Rep.str 2 (fun x => x.Order) (fun x y => { x with Order := y }) := (Lens.iso _ _ _ _).comp ((Lens.snd _ _).comp ((Lens.snd _ _).comp (Lens.fst _ _)))
theorem jJu.l3 : Lens jJu.rep Rep.str 3 (fun x => x.Item) (fun x y => { x with Item := y }) := (Lens.iso _ _ _ _).comp ((Lens.snd _ _).comp ((Lens.snd _ _).comp ((Lens.snd _ _).comp (Lens.fst _ _))))
theorem jJu.l4 : Lens jJu.rep Rep.str 4 (fun x => x.Ship) (fun x y => { x with Ship := y }) := (Lens.iso _ _ _ _).comp ((Lens.snd _ _).comp ((Lens.snd _ _).comp ((Lens.snd _ _).comp ((Lens.snd _ _).comp (Lens.fst _ _)))))
theorem jJu.l5 : Lens jJu.rep Rep.str 5 (fun x => x.Who) (fun x y => { x with Who := y }) := (Lens.iso _ _ _ _).comp ((Lens.snd _ _).comp ((Lens.snd _ _).comp ((Lens.snd _ _).comp ((Lens.snd _ _).comp ((Lens.snd _ _).comp (Lens.fst _ _))))))
theorem jJu.l6 : Lens jJu.rep jJy 6 (fun x => x.Amount) (fun x y => { x with Amount := y }) := (Lens.iso _ _ _ _).comp ((Lens.snd _ _).comp ((Lens.snd _ _).comp ((Lens.snd _ _).comp ((Lens.snd _ _).comp ((Lens.snd _ _).comp ((Lens.snd _ _).comp (Lens.fst _ _)))))))
theorem jJu.l7 : Lens jJu.rep jJy 7 (fun x => x.Ref) (fun x y => { x with Ref := y }) := (Lens.iso _ _ _ _).comp ((Lens.snd _ _).comp ((Lens.snd _ _).comp ((Lens.snd _ _).comp ((Lens.snd _ _).comp ((Lens.snd _ _).comp ((Lens.snd _ _).comp ((Lens.snd _ _).comp (Lens.fst _ _))))))))
theorem jJu.l8 : Lens jJu.rep jJy 8 (fun x => x.Role) (fun x y => { x with Role := y }) := (Lens.iso _ _ _ _).comp ((Lens.snd _ _).comp ((Lens.snd _ _).comp ((Lens.snd _ _).comp ((Lens.snd _ _).comp ((Lens.snd _ _).comp ((Lens.snd _ _).comp ((Lens.snd _ _).comp ((Lens.snd _ _).comp (Lens.fst _ _)))))))))
def jJu.gS (y : jJu) (n : Nat) : Option Str := bif Nat.beq n 2 then some y.Order else bif Nat.beq n 3 then some y.Item else bif Nat.beq n 4 then some y.Ship else bif Nat.beq n 5 then some y.Who else none
def jJu.sS (y : jJu) (n : Nat) (z : Str) : Option jJu := bif Nat.beq n 2 then some { y with Order := z } else bif Nat.beq n 3 then some { y with Item := z } else bif Nat.beq n 4 then some { y with Ship := z } else bif Nat.beq n 5 then some { y with Who := z } else none
theorem jJu.dgS : qXu jJu.rep Rep.str jJu.gS jJu.sS := (.cons jJu.l2 (.cons jJu.l3 (.cons jJu.l4 (.cons jJu.l5 qXu.nil))))
def jJu.gI (y : jJu) (n : Nat) : Option Int := bif Nat.beq n 0 then some y.Op else bif Nat.beq n 1 then some y.Day else bif Nat.beq n 6 then some y.Amount else bif Nat.beq n 7 then some y.Ref else bif Nat.beq n 8 then some y.Role else none
def jJu.sI (y : jJu) (n : Nat) (z : Int) : Option jJu := bif Nat.beq n 0 then some { y with Op := z } else bif Nat.beq n 1 then some { y with Day := z } else bif Nat.beq n 6 then some { y with Amount := z } else bif Nat.beq n 7 then some { y with Ref := z } else bif Nat.beq n 8 then some { y with Role := z } else none
theorem jJu.dgI : qXu jJu.rep jJy jJu.gI jJu.sI := (.cons jJu.l0 (.cons jJu.l1 (.cons jJu.l6 (.cons jJu.l7 (.cons jJu.l8 qXu.nil)))))
structure jJj where
  posts : (List jJu)
def jJj.rep : Rep (jJj × Value × Value × Value) := Rep.iso (Rep.prod (Rep.slice jJu.rep) (Rep.prod Rep.rawM (Rep.prod Rep.rawM (Rep.prod Rep.rawM Rep.unit)))) (fun s => (s.1.posts, (s.2.1, (s.2.2.1, (s.2.2.2, ()))))) (fun t => (⟨t.1⟩, t.2.1, t.2.2.1, t.2.2.2.1)) (fun _ => rfl)
theorem jJj.l0 : Lens jJj.rep (Rep.slice jJu.rep) 0 (fun x => x.1.posts) (fun x y => ({ x.1 with posts := y }, x.2)) := (Lens.iso _ _ _ _).comp (Lens.fst _ _)
theorem jJj.l1 : Lens jJj.rep Rep.rawM 1 (fun x => x.2.1) (fun x y => (x.1, y, x.2.2.1, x.2.2.2)) := (Lens.iso _ _ _ _).comp ((Lens.snd _ _).comp (Lens.fst _ _))
theorem jJj.l2 : Lens jJj.rep Rep.rawM 2 (fun x => x.2.2.1) (fun x y => (x.1, x.2.1, y, x.2.2.2)) := (Lens.iso _ _ _ _).comp ((Lens.snd _ _).comp ((Lens.snd _ _).comp (Lens.fst _ _)))
theorem jJj.l3 : Lens jJj.rep Rep.rawM 3 (fun x => x.2.2.2) (fun x y => (x.1, x.2.1, x.2.2.1, y)) := (Lens.iso _ _ _ _).comp ((Lens.snd _ _).comp ((Lens.snd _ _).comp ((Lens.snd _ _).comp (Lens.fst _ _))))
structure jJz where
  order : Str
  item : Str
def jJz.rep : Rep jJz := Rep.iso (Rep.prod Rep.str (Rep.prod Rep.str Rep.unit)) (fun s => (s.order, (s.item, ()))) (fun t => ⟨t.1, t.2.1⟩) (fun _ => rfl)
def jJz.ok (y : jJz) : Prop := gS y.order ∧ gS y.item ∧ True
theorem jJz.l0 : Lens jJz.rep Rep.str 0 (fun x => x.order) (fun x y => { x with order := y }) := (Lens.iso _ _ _ _).comp (Lens.fst _ _)
theorem jJz.l1 : Lens jJz.rep Rep.str 1 (fun x => x.item) (fun x y => { x with item := y }) := (Lens.iso _ _ _ _).comp ((Lens.snd _ _).comp (Lens.fst _ _))
def jJz.eqb (x y : jJz) : Bool := ((x.order == y.order) && ((x.item == y.item) && true))
instance : DecidableEq jJz
  | ⟨a0, a1⟩, ⟨b0, b1⟩ => if h : a0 = b0 ∧ a1 = b1 then isTrue (by obtain ⟨rfl, rfl⟩ := h; rfl) else isFalse (fun e => by cases e; exact h ⟨rfl, rfl⟩)
def jJw (x : jJz) : Value := .agg #[jXc x.order, jXc x.item]
structure jJd where
  text : (Option Nat)
  number : (Option Nat)
  low : Int
  high : Int
def jJd.rep (sv : Value) : Rep jJd := Rep.iso (Rep.prod (Rep.poff sv) (Rep.prod (Rep.poff sv) (Rep.prod jJy (Rep.prod jJy Rep.unit)))) (fun s => (s.text, (s.number, (s.low, (s.high, ()))))) (fun t => ⟨t.1, t.2.1, t.2.2.1, t.2.2.2.1⟩) (fun _ => rfl)
theorem jJd.l0 {sv : Value} : Lens (jJd.rep sv) (Rep.poff sv) 0 (fun x => x.text) (fun x y => { x with text := y }) := (Lens.iso _ _ _ _).comp (Lens.fst _ _)
theorem jJd.l1 {sv : Value} : Lens (jJd.rep sv) (Rep.poff sv) 1 (fun x => x.number) (fun x y => { x with number := y }) := (Lens.iso _ _ _ _).comp ((Lens.snd _ _).comp (Lens.fst _ _))
theorem jJd.l2 {sv : Value} : Lens (jJd.rep sv) jJy 2 (fun x => x.low) (fun x y => { x with low := y }) := (Lens.iso _ _ _ _).comp ((Lens.snd _ _).comp ((Lens.snd _ _).comp (Lens.fst _ _)))
theorem jJd.l3 {sv : Value} : Lens (jJd.rep sv) jJy 3 (fun x => x.high) (fun x y => { x with high := y }) := (Lens.iso _ _ _ _).comp ((Lens.snd _ _).comp ((Lens.snd _ _).comp ((Lens.snd _ _).comp (Lens.fst _ _))))
structure jJq where
  Estimate : Int
  Growth : Int
  Charged : Int
  Billed : Int
  Paid : Int
  Due : Int
def jJq.rep : Rep jJq := Rep.iso (Rep.prod jJy (Rep.prod jJy (Rep.prod jJy (Rep.prod jJy (Rep.prod jJy (Rep.prod jJy Rep.unit)))))) (fun s => (s.Estimate, (s.Growth, (s.Charged, (s.Billed, (s.Paid, (s.Due, ()))))))) (fun t => ⟨t.1, t.2.1, t.2.2.1, t.2.2.2.1, t.2.2.2.2.1, t.2.2.2.2.2.1⟩) (fun _ => rfl)
def jJq.ok (y : jJq) : Prop := (gI .i64) y.Estimate ∧ (gI .i64) y.Growth ∧ (gI .i64) y.Charged ∧ (gI .i64) y.Billed ∧ (gI .i64) y.Paid ∧ (gI .i64) y.Due ∧ True
theorem jJq.l0 : Lens jJq.rep jJy 0 (fun x => x.Estimate) (fun x y => { x with Estimate := y }) := (Lens.iso _ _ _ _).comp (Lens.fst _ _)
theorem jJq.l1 : Lens jJq.rep jJy 1 (fun x => x.Growth) (fun x y => { x with Growth := y }) := (Lens.iso _ _ _ _).comp ((Lens.snd _ _).comp (Lens.fst _ _))
theorem jJq.l2 : Lens jJq.rep jJy 2 (fun x => x.Charged) (fun x y => { x with Charged := y }) := (Lens.iso _ _ _ _).comp ((Lens.snd _ _).comp ((Lens.snd _ _).comp (Lens.fst _ _)))
theorem jJq.l3 : Lens jJq.rep jJy 3 (fun x => x.Billed) (fun x y => { x with Billed := y }) := (Lens.iso _ _ _ _).comp ((Lens.snd _ _).comp ((Lens.snd _ _).comp ((Lens.snd _ _).comp (Lens.fst _ _))))
theorem jJq.l4 : Lens jJq.rep jJy 4 (fun x => x.Paid) (fun x y => { x with Paid := y }) := (Lens.iso _ _ _ _).comp ((Lens.snd _ _).comp ((Lens.snd _ _).comp ((Lens.snd _ _).comp ((Lens.snd _ _).comp (Lens.fst _ _)))))
theorem jJq.l5 : Lens jJq.rep jJy 5 (fun x => x.Due) (fun x y => { x with Due := y }) := (Lens.iso _ _ _ _).comp ((Lens.snd _ _).comp ((Lens.snd _ _).comp ((Lens.snd _ _).comp ((Lens.snd _ _).comp ((Lens.snd _ _).comp (Lens.fst _ _))))))
def jJq.eqb (x y : jJq) : Bool := ((x.Estimate == y.Estimate) && ((x.Growth == y.Growth) && ((x.Charged == y.Charged) && ((x.Billed == y.Billed) && ((x.Paid == y.Paid) && ((x.Due == y.Due) && true))))))
structure jJn where
  Item : Str
  Estimate : Int
  Growth : Int
  Charged : Int
  Signed : Int
  Billed : Int
  Over : Int
def jJn.rep : Rep jJn := Rep.iso (Rep.prod Rep.str (Rep.prod jJy (Rep.prod jJy (Rep.prod jJy (Rep.prod jJy (Rep.prod jJy (Rep.prod jJy Rep.unit))))))) (fun s => (s.Item, (s.Estimate, (s.Growth, (s.Charged, (s.Signed, (s.Billed, (s.Over, ())))))))) (fun t => ⟨t.1, t.2.1, t.2.2.1, t.2.2.2.1, t.2.2.2.2.1, t.2.2.2.2.2.1, t.2.2.2.2.2.2.1⟩) (fun _ => rfl)
def jJn.ok (y : jJn) : Prop := gS y.Item ∧ (gI .i64) y.Estimate ∧ (gI .i64) y.Growth ∧ (gI .i64) y.Charged ∧ (gI .i64) y.Signed ∧ (gI .i64) y.Billed ∧ (gI .i64) y.Over ∧ True
theorem jJn.l0 : Lens jJn.rep Rep.str 0 (fun x => x.Item) (fun x y => { x with Item := y }) := (Lens.iso _ _ _ _).comp (Lens.fst _ _)
theorem jJn.l1 : Lens jJn.rep jJy 1 (fun x => x.Estimate) (fun x y => { x with Estimate := y }) := (Lens.iso _ _ _ _).comp ((Lens.snd _ _).comp (Lens.fst _ _))
theorem jJn.l2 : Lens jJn.rep jJy 2 (fun x => x.Growth) (fun x y => { x with Growth := y }) := (Lens.iso _ _ _ _).comp ((Lens.snd _ _).comp ((Lens.snd _ _).comp (Lens.fst _ _)))
theorem jJn.l3 : Lens jJn.rep jJy 3 (fun x => x.Charged) (fun x y => { x with Charged := y }) := (Lens.iso _ _ _ _).comp ((Lens.snd _ _).comp ((Lens.snd _ _).comp ((Lens.snd _ _).comp (Lens.fst _ _))))
theorem jJn.l4 : Lens jJn.rep jJy 4 (fun x => x.Signed) (fun x y => { x with Signed := y }) := (Lens.iso _ _ _ _).comp ((Lens.snd _ _).comp ((Lens.snd _ _).comp ((Lens.snd _ _).comp ((Lens.snd _ _).comp (Lens.fst _ _)))))
theorem jJn.l5 : Lens jJn.rep jJy 5 (fun x => x.Billed) (fun x y => { x with Billed := y }) := (Lens.iso _ _ _ _).comp ((Lens.snd _ _).comp ((Lens.snd _ _).comp ((Lens.snd _ _).comp ((Lens.snd _ _).comp ((Lens.snd _ _).comp (Lens.fst _ _))))))
theorem jJn.l6 : Lens jJn.rep jJy 6 (fun x => x.Over) (fun x y => { x with Over := y }) := (Lens.iso _ _ _ _).comp ((Lens.snd _ _).comp ((Lens.snd _ _).comp ((Lens.snd _ _).comp ((Lens.snd _ _).comp ((Lens.snd _ _).comp ((Lens.snd _ _).comp (Lens.fst _ _)))))))
structure jXy where
  Order : Int
  Item : Int
  Amends : (List Int)
  Signs : (List Int)
  Invoice : Int
def jXy.rep : Rep jXy := Rep.iso (Rep.prod jJy (Rep.prod jJy (Rep.prod (Rep.slice jJy) (Rep.prod (Rep.slice jJy) (Rep.prod jJy Rep.unit))))) (fun s => (s.Order, (s.Item, (s.Amends, (s.Signs, (s.Invoice, ())))))) (fun t => ⟨t.1, t.2.1, t.2.2.1, t.2.2.2.1, t.2.2.2.2.1⟩) (fun _ => rfl)
def jXy.ok (y : jXy) : Prop := (gI .i64) y.Order ∧ (gI .i64) y.Item ∧ (gL (gI .i64)) y.Amends ∧ (gL (gI .i64)) y.Signs ∧ (gI .i64) y.Invoice ∧ True
theorem jXy.l0 : Lens jXy.rep jJy 0 (fun x => x.Order) (fun x y => { x with Order := y }) := (Lens.iso _ _ _ _).comp (Lens.fst _ _)
theorem jXy.l1 : Lens jXy.rep jJy 1 (fun x => x.Item) (fun x y => { x with Item := y }) := (Lens.iso _ _ _ _).comp ((Lens.snd _ _).comp (Lens.fst _ _))
theorem jXy.l2 : Lens jXy.rep (Rep.slice jJy) 2 (fun x => x.Amends) (fun x y => { x with Amends := y }) := (Lens.iso _ _ _ _).comp ((Lens.snd _ _).comp ((Lens.snd _ _).comp (Lens.fst _ _)))
theorem jXy.l3 : Lens jXy.rep (Rep.slice jJy) 3 (fun x => x.Signs) (fun x y => { x with Signs := y }) := (Lens.iso _ _ _ _).comp ((Lens.snd _ _).comp ((Lens.snd _ _).comp ((Lens.snd _ _).comp (Lens.fst _ _))))
theorem jXy.l4 : Lens jXy.rep jJy 4 (fun x => x.Invoice) (fun x y => { x with Invoice := y }) := (Lens.iso _ _ _ _).comp ((Lens.snd _ _).comp ((Lens.snd _ _).comp ((Lens.snd _ _).comp ((Lens.snd _ _).comp (Lens.fst _ _)))))
abbrev jJk := jJu.rep
abbrev jJx := jJj.rep
abbrev jH1 := jJz.rep
abbrev jJv := jJd.rep
abbrev jJr := jJq.rep
abbrev jJl := jJn.rep
abbrev jZ5 := jXy.rep
abbrev oO0 (k : Nat) (g : jJj) (a1 a2 a3 v : Value) (x1 : (List (Str × Int))) (x2 : (List (jJz × Int))) (x3 : (List (Int × Bool))) : List (Nat × jX3) := [(k, atV (jJ6 67 jJj.rep (g, a1, a2, a3) ([⟨0, 47, jJu.rep.sz⟩] : List jJ4)) v), (k + 1, atV (jJ0 jXc jJy x1) a1), (k + 2, atV (jJ0 jJw jJy x2) a2), (k + 3, atV (jJ0 (jXj .i64) Rep.bool x3) a3)]
abbrev oP0 (k : Nat) (g : jJj) (a1 a2 a3 v : Value) (x1 : (List (Str × Int))) (x2 : (List (jJz × Int))) (x3 : (List (Int × Bool))) : List (Nat × jX3) := [(k, atV (jJ6 67 jJj.rep (g, a1, a2, a3) ([] : List jJ4)) v), (k + 1, atV (jJ0 jXc jJy x1) a1), (k + 2, atV (jJ0 jJw jJy x2) a2), (k + 3, atV (jJ0 (jXj .i64) Rep.bool x3) a3)]
end Go.KB
