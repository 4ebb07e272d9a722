/- Go's types as Lean types. Printed by a program. No condition. -/
import Derived.Test.YtkflmfhgpjpepaaGreatDoorKOff
import Derived.Test.YtkflmfhgpjpepaaGreatDoorKZg
namespace Go.KB
abbrev r_i8 : Rep Int := Rep.int .i8
abbrev r_i16 : Rep Int := Rep.int .i16
abbrev jDf : Rep Int := Rep.int .i32
abbrev r_i64 : Rep Int := Rep.int .i64
abbrev jKu : Rep Int := Rep.int .u8
abbrev r_u16 : Rep Int := Rep.int .u16
abbrev r_u32 : Rep Int := Rep.int .u32
abbrev r_u64 : Rep Int := Rep.int .u64
structure GPost where
  Op : Int
  Day : Int
  Order : Str
  Item : Str
  Ship : Str
  Who : Str
  Amount : Int
  Ref : Int
  Role : Int
def GPost.rep : Rep GPost := Rep.iso (Rep.prod r_i64 (Rep.prod r_i64 (Rep.prod Rep.str (Rep.prod Rep.str (Rep.prod Rep.str (Rep.prod Rep.str (Rep.prod r_i64 (Rep.prod r_i64 (Rep.prod r_i64 Rep.unit))))))))) (fun s => (s.Op, (s.Day, (s.Order, (s.Item, (s.Ship, (s.Who, (s.Amount, (s.Ref, (s.Role, ())))))))))) (fun t => ⟨t.1, t.2.1, t.2.2.1, t.2.2.2.1, t.2.2.2.2.1, t.2.2.2.2.2.1, t.2.2.2.2.2.2.1, t.2.2.2.2.2.2.2.1, t.2.2.2.2.2.2.2.2.1⟩) (fun _ => rfl)
def GPost.ok (y : GPost) : Prop := (gI .i64) y.Op ∧ (gI .i64) y.Day ∧ gS y.Order ∧ gS y.Item ∧ gS y.Ship ∧ gS y.Who ∧ (gI .i64) y.Amount ∧ (gI .i64) y.Ref ∧ (gI .i64) y.Role ∧ True
theorem GPost.l0 : Lens GPost.rep r_i64 0 (fun x => x.Op) (fun x y => { x with Op := y }) := (Lens.iso _ _ _ _).comp (Lens.fst _ _)
theorem GPost.l1 : Lens GPost.rep r_i64 1 (fun x => x.Day) (fun x y => { x with Day := y }) := (Lens.iso _ _ _ _).comp ((Lens.snd _ _).comp (Lens.fst _ _))
theorem GPost.l2 : Lens GPost.rep Rep.str 2 (fun x => x.Order) (fun x y => { x with Order := y }) := (Lens.iso _ _ _ _).comp ((Lens.snd _ _).comp ((Lens.snd _ _).comp (Lens.fst _ _)))
theorem GPost.l3 : Lens GPost.rep Rep.str 3 (fun x => x.Item) (fun x y => { x with Item := y }) := (Lens.iso _ _ _ _).comp ((Lens.snd _ _).comp ((Lens.snd _ _).comp ((Lens.snd _ _).comp (Lens.fst _ _))))
theorem GPost.l4 : Lens GPost.rep Rep.str 4 (fun x => x.Ship) (fun x y => { x with Ship := y }) := (Lens.iso _ _ _ _).comp ((Lens.snd _ _).comp ((Lens.snd _ _).comp ((Lens.snd _ _).comp ((Lens.snd _ _).comp (Lens.fst _ _)))))
theorem GPost.l5 : Lens GPost.rep Rep.str 5 (fun x => x.Who) (fun x y => { x with Who := y }) := (Lens.iso _ _ _ _).comp ((Lens.snd _ _).comp ((Lens.snd _ _).comp ((Lens.snd _ _).comp ((Lens.snd _ _).comp ((Lens.snd _ _).comp (Lens.fst _ _))))))
theorem GPost.l6 : Lens GPost.rep r_i64 6 (fun x => x.Amount) (fun x y => { x with Amount := y }) := (Lens.iso _ _ _ _).comp ((Lens.snd _ _).comp ((Lens.snd _ _).comp ((Lens.snd _ _).comp ((Lens.snd _ _).comp ((Lens.snd _ _).comp ((Lens.snd _ _).comp (Lens.fst _ _)))))))
theorem GPost.l7 : Lens GPost.rep r_i64 7 (fun x => x.Ref) (fun x y => { x with Ref := y }) := (Lens.iso _ _ _ _).comp ((Lens.snd _ _).comp ((Lens.snd _ _).comp ((Lens.snd _ _).comp ((Lens.snd _ _).comp ((Lens.snd _ _).comp ((Lens.snd _ _).comp ((Lens.snd _ _).comp (Lens.fst _ _))))))))
theorem GPost.l8 : Lens GPost.rep r_i64 8 (fun x => x.Role) (fun x y => { x with Role := y }) := (Lens.iso _ _ _ _).comp ((Lens.snd _ _).comp ((Lens.snd _ _).comp ((Lens.snd _ _).comp ((Lens.snd _ _).comp ((Lens.snd _ _).comp ((Lens.snd _ _).comp ((Lens.snd _ _).comp ((Lens.snd _ _).comp (Lens.fst _ _)))))))))
def GPost.gS (y : GPost) (n : Nat) : Option Str := bif Nat.beq n 2 then some y.Order else bif Nat.beq n 3 then some y.Item else bif Nat.beq n 4 then some y.Ship else bif Nat.beq n 5 then some y.Who else none
def GPost.sS (y : GPost) (n : Nat) (z : Str) : Option GPost := bif Nat.beq n 2 then some { y with Order := z } else bif Nat.beq n 3 then some { y with Item := z } else bif Nat.beq n 4 then some { y with Ship := z } else bif Nat.beq n 5 then some { y with Who := z } else none
theorem GPost.dgS : qXf GPost.rep Rep.str GPost.gS GPost.sS := (.cons GPost.l2 (.cons GPost.l3 (.cons GPost.l4 (.cons GPost.l5 qXf.nil))))
def GPost.gI (y : GPost) (n : Nat) : Option Int := bif Nat.beq n 0 then some y.Op else bif Nat.beq n 1 then some y.Day else bif Nat.beq n 6 then some y.Amount else bif Nat.beq n 7 then some y.Ref else bif Nat.beq n 8 then some y.Role else none
def GPost.sI (y : GPost) (n : Nat) (z : Int) : Option GPost := bif Nat.beq n 0 then some { y with Op := z } else bif Nat.beq n 1 then some { y with Day := z } else bif Nat.beq n 6 then some { y with Amount := z } else bif Nat.beq n 7 then some { y with Ref := z } else bif Nat.beq n 8 then some { y with Role := z } else none
theorem GPost.dgI : qXf GPost.rep r_i64 GPost.gI GPost.sI := (.cons GPost.l0 (.cons GPost.l1 (.cons GPost.l6 (.cons GPost.l7 (.cons GPost.l8 qXf.nil)))))
structure jJq where
  posts : (List GPost)
def jJq.rep : Rep (jJq × Value × Value × Value) := Rep.iso (Rep.prod (Rep.slice GPost.rep) (Rep.prod Rep.rawM (Rep.prod Rep.rawM (Rep.prod Rep.rawM Rep.unit)))) (fun s => (s.1.posts, (s.2.1, (s.2.2.1, (s.2.2.2, ()))))) (fun t => (⟨t.1⟩, t.2.1, t.2.2.1, t.2.2.2.1)) (fun _ => rfl)
theorem jJq.l0 : Lens jJq.rep (Rep.slice GPost.rep) 0 (fun x => x.1.posts) (fun x y => ({ x.1 with posts := y }, x.2)) := (Lens.iso _ _ _ _).comp (Lens.fst _ _)
theorem jJq.l1 : Lens jJq.rep Rep.rawM 1 (fun x => x.2.1) (fun x y => (x.1, y, x.2.2.1, x.2.2.2)) := (Lens.iso _ _ _ _).comp ((Lens.snd _ _).comp (Lens.fst _ _))
theorem jJq.l2 : Lens jJq.rep Rep.rawM 2 (fun x => x.2.2.1) (fun x y => (x.1, x.2.1, y, x.2.2.2)) := (Lens.iso _ _ _ _).comp ((Lens.snd _ _).comp ((Lens.snd _ _).comp (Lens.fst _ _)))
theorem jJq.l3 : Lens jJq.rep Rep.rawM 3 (fun x => x.2.2.2) (fun x y => (x.1, x.2.1, x.2.2.1, y)) := (Lens.iso _ _ _ _).comp ((Lens.snd _ _).comp ((Lens.snd _ _).comp ((Lens.snd _ _).comp (Lens.fst _ _))))
structure jJy where
  order : Str
  item : Str
def jJy.rep : Rep jJy := Rep.iso (Rep.prod Rep.str (Rep.prod Rep.str Rep.unit)) (fun s => (s.order, (s.item, ()))) (fun t => ⟨t.1, t.2.1⟩) (fun _ => rfl)
def jJy.ok (y : jJy) : Prop := gS y.order ∧ gS y.item ∧ True
theorem jJy.l0 : Lens jJy.rep Rep.str 0 (fun x => x.order) (fun x y => { x with order := y }) := (Lens.iso _ _ _ _).comp (Lens.fst _ _)
theorem jJy.l1 : Lens jJy.rep Rep.str 1 (fun x => x.item) (fun x y => { x with item := y }) := (Lens.iso _ _ _ _).comp ((Lens.snd _ _).comp (Lens.fst _ _))
def jJy.eqb (x y : jJy) : Bool := ((x.order == y.order) && ((x.item == y.item) && true))
instance : DecidableEq jJy
  | ⟨a0, a1⟩, ⟨b0, b1⟩ => if h : a0 = b0 ∧ a1 = b1 then isTrue (by obtain ⟨rfl, rfl⟩ := h; rfl) else isFalse (fun e => by cases e; exact h ⟨rfl, rfl⟩)
def jJz (x : jJy) : Value := .agg #[jQt x.order, jQt x.item]
structure jJb where
  text : (Option Nat)
  number : (Option Nat)
  low : Int
  high : Int
def jJb.rep (sv : Value) : Rep jJb := Rep.iso (Rep.prod (Rep.poff sv) (Rep.prod (Rep.poff sv) (Rep.prod r_i64 (Rep.prod r_i64 Rep.unit)))) (fun s => (s.text, (s.number, (s.low, (s.high, ()))))) (fun t => ⟨t.1, t.2.1, t.2.2.1, t.2.2.2.1⟩) (fun _ => rfl)
theorem jJb.l0 {sv : Value} : Lens (jJb.rep sv) (Rep.poff sv) 0 (fun x => x.text) (fun x y => { x with text := y }) := (Lens.iso _ _ _ _).comp (Lens.fst _ _)
theorem jJb.l1 {sv : Value} : Lens (jJb.rep sv) (Rep.poff sv) 1 (fun x => x.number) (fun x y => { x with number := y }) := (Lens.iso _ _ _ _).comp ((Lens.snd _ _).comp (Lens.fst _ _))
theorem jJb.l2 {sv : Value} : Lens (jJb.rep sv) r_i64 2 (fun x => x.low) (fun x y => { x with low := y }) := (Lens.iso _ _ _ _).comp ((Lens.snd _ _).comp ((Lens.snd _ _).comp (Lens.fst _ _)))
theorem jJb.l3 {sv : Value} : Lens (jJb.rep sv) r_i64 3 (fun x => x.high) (fun x y => { x with high := y }) := (Lens.iso _ _ _ _).comp ((Lens.snd _ _).comp ((Lens.snd _ _).comp ((Lens.snd _ _).comp (Lens.fst _ _))))
structure jJv where
  Estimate : Int
  Growth : Int
  Charged : Int
  Billed : Int
  Paid : Int
  Due : Int
def jJv.rep : Rep jJv := Rep.iso (Rep.prod r_i64 (Rep.prod r_i64 (Rep.prod r_i64 (Rep.prod r_i64 (Rep.prod r_i64 (Rep.prod r_i64 Rep.unit)))))) (fun s => (s.Estimate, (s.Growth, (s.Charged, (s.Billed, (s.Paid, (s.Due, ()))))))) (fun t => ⟨t.1, t.2.1, t.2.2.1, t.2.2.2.1, t.2.2.2.2.1, t.2.2.2.2.2.1⟩) (fun _ => rfl)
def jJv.ok (y : jJv) : Prop := (gI .i64) y.Estimate ∧ (gI .i64) y.Growth ∧ (gI .i64) y.Charged ∧ (gI .i64) y.Billed ∧ (gI .i64) y.Paid ∧ (gI .i64) y.Due ∧ True
theorem jJv.l0 : Lens jJv.rep r_i64 0 (fun x => x.Estimate) (fun x y => { x with Estimate := y }) := (Lens.iso _ _ _ _).comp (Lens.fst _ _)
theorem jJv.l1 : Lens jJv.rep r_i64 1 (fun x => x.Growth) (fun x y => { x with Growth := y }) := (Lens.iso _ _ _ _).comp ((Lens.snd _ _).comp (Lens.fst _ _))
theorem jJv.l2 : Lens jJv.rep r_i64 2 (fun x => x.Charged) (fun x y => { x with Charged := y }) := (Lens.iso _ _ _ _).comp ((Lens.snd _ _).comp ((Lens.snd _ _).comp (Lens.fst _ _)))
theorem jJv.l3 : Lens jJv.rep r_i64 3 (fun x => x.Billed) (fun x y => { x with Billed := y }) := (Lens.iso _ _ _ _).comp ((Lens.snd _ _).comp ((Lens.snd _ _).comp ((Lens.snd _ _).comp (Lens.fst _ _))))
theorem jJv.l4 : Lens jJv.rep r_i64 4 (fun x => x.Paid) (fun x y => { x with Paid := y }) := (Lens.iso _ _ _ _).comp ((Lens.snd _ _).comp ((Lens.snd _ _).comp ((Lens.snd _ _).comp ((Lens.snd _ _).comp (Lens.fst _ _)))))
theorem jJv.l5 : Lens jJv.rep r_i64 5 (fun x => x.Due) (fun x y => { x with Due := y }) := (Lens.iso _ _ _ _).comp ((Lens.snd _ _).comp ((Lens.snd _ _).comp ((Lens.snd _ _).comp ((Lens.snd _ _).comp ((Lens.snd _ _).comp (Lens.fst _ _))))))
def jJv.eqb (x y : jJv) : Bool := ((x.Estimate == y.Estimate) && ((x.Growth == y.Growth) && ((x.Charged == y.Charged) && ((x.Billed == y.Billed) && ((x.Paid == y.Paid) && ((x.Due == y.Due) && true))))))
structure jJh where
  Item : Str
  Estimate : Int
  Growth : Int
  Charged : Int
  Signed : Int
  Billed : Int
  Over : Int
def jJh.rep : Rep jJh := Rep.iso (Rep.prod Rep.str (Rep.prod r_i64 (Rep.prod r_i64 (Rep.prod r_i64 (Rep.prod r_i64 (Rep.prod r_i64 (Rep.prod r_i64 Rep.unit))))))) (fun s => (s.Item, (s.Estimate, (s.Growth, (s.Charged, (s.Signed, (s.Billed, (s.Over, ())))))))) (fun t => ⟨t.1, t.2.1, t.2.2.1, t.2.2.2.1, t.2.2.2.2.1, t.2.2.2.2.2.1, t.2.2.2.2.2.2.1⟩) (fun _ => rfl)
def jJh.ok (y : jJh) : Prop := gS y.Item ∧ (gI .i64) y.Estimate ∧ (gI .i64) y.Growth ∧ (gI .i64) y.Charged ∧ (gI .i64) y.Signed ∧ (gI .i64) y.Billed ∧ (gI .i64) y.Over ∧ True
theorem jJh.l0 : Lens jJh.rep Rep.str 0 (fun x => x.Item) (fun x y => { x with Item := y }) := (Lens.iso _ _ _ _).comp (Lens.fst _ _)
theorem jJh.l1 : Lens jJh.rep r_i64 1 (fun x => x.Estimate) (fun x y => { x with Estimate := y }) := (Lens.iso _ _ _ _).comp ((Lens.snd _ _).comp (Lens.fst _ _))
theorem jJh.l2 : Lens jJh.rep r_i64 2 (fun x => x.Growth) (fun x y => { x with Growth := y }) := (Lens.iso _ _ _ _).comp ((Lens.snd _ _).comp ((Lens.snd _ _).comp (Lens.fst _ _)))
theorem jJh.l3 : Lens jJh.rep r_i64 3 (fun x => x.Charged) (fun x y => { x with Charged := y }) := (Lens.iso _ _ _ _).comp ((Lens.snd _ _).comp ((Lens.snd _ _).comp ((Lens.snd _ _).comp (Lens.fst _ _))))
theorem jJh.l4 : Lens jJh.rep r_i64 4 (fun x => x.Signed) (fun x y => { x with Signed := y }) := (Lens.iso _ _ _ _).comp ((Lens.snd _ _).comp ((Lens.snd _ _).comp ((Lens.snd _ _).comp ((Lens.snd _ _).comp (Lens.fst _ _)))))
theorem jJh.l5 : Lens jJh.rep r_i64 5 (fun x => x.Billed) (fun x y => { x with Billed := y }) := (Lens.iso _ _ _ _).comp ((Lens.snd _ _).comp ((Lens.snd _ _).comp ((Lens.snd _ _).comp ((Lens.snd _ _).comp ((Lens.snd _ _).comp (Lens.fst _ _))))))
theorem jJh.l6 : Lens jJh.rep r_i64 6 (fun x => x.Over) (fun x y => { x with Over := y }) := (Lens.iso _ _ _ _).comp ((Lens.snd _ _).comp ((Lens.snd _ _).comp ((Lens.snd _ _).comp ((Lens.snd _ _).comp ((Lens.snd _ _).comp ((Lens.snd _ _).comp (Lens.fst _ _)))))))
def jJh.eqb (x y : jJh) : Bool := ((x.Item == y.Item) && ((x.Estimate == y.Estimate) && ((x.Growth == y.Growth) && ((x.Charged == y.Charged) && ((x.Signed == y.Signed) && ((x.Billed == y.Billed) && ((x.Over == y.Over) && true)))))))
abbrev jJx := GPost.rep
abbrev jJj := jJq.rep
abbrev jDc := jJy.rep
abbrev jJk := jJb.rep
abbrev jJn := jJv.rep
abbrev jJf := jJh.rep
abbrev oO0 (k : Nat) (g : jJq) (a1 a2 a3 v : Value) (x1 : (List (Str × Int))) (x2 : (List (jJy × Int))) (x3 : (List (Int × Bool))) : List (Nat × jXa) := [(k, atV (jJ5 58 jJq.rep (g, a1, a2, a3) ([⟨0, 37, GPost.rep.sz⟩] : List jJ2)) v), (k + 1, atV (jJm jQt r_i64 x1) a1), (k + 2, atV (jJm jJz r_i64 x2) a2), (k + 3, atV (jJm (jQb .i64) Rep.bool x3) a3)]
abbrev oP0 (k : Nat) (g : jJq) (a1 a2 a3 v : Value) (x1 : (List (Str × Int))) (x2 : (List (jJy × Int))) (x3 : (List (Int × Bool))) : List (Nat × jXa) := [(k, atV (jJ5 58 jJq.rep (g, a1, a2, a3) ([] : List jJ2)) v), (k + 1, atV (jJm jQt r_i64 x1) a1), (k + 2, atV (jJm jJz r_i64 x2) a2), (k + 3, atV (jJm (jQb .i64) Rep.bool x3) a3)]
end Go.KB
