/- Raw cells, variables that hold maps, variables that are captured or that go to keys that are no slots. Functions as numbers, slices of which nil is known, regions in parts, objects that are handed back. Variables of which several fields are rows or maps that are owned. clear of the end of a row that is owned. Struct values of which several fields are rows that are owned: variables, arguments, results. maps.Clone: a copy of a map that is owned. No condition. -/
import Derived.Test.YthoopaegiclfaaaGreatKZe
import Derived.Lib.LazyBuf
namespace Go.KB
variable {P : Program} {o : Oper} {N : List (Nat × jJr)} {α β : Type}
section
variable {κ : Type} {B : Base} {h0 : H} {Γ : Ctx} {Λ : Own} {F : κ → Option Ent} {n : Nat} {a : Act} {w : World}
theorem St.freezeBox {h : H} {L : Nat → Option Ent} (hst : St B h (Sum.elim L F) w) (s : Nat) {b : Nat} {T : TypeId} {r : Rep α} {x : α} (hL : L s = some (jY8 b T r x)) :
  ∃ h', Hle h h' ∧ St B h' (Sum.elim (fun k => if k = s then none else L k) F) w ∧ jU6 r h' b 0 x := by
 obtain ⟨cs, hb, hr⟩ := jSm hst hL
 obtain ⟨hl2, hst2⟩ := hst.freeze (Sum.inl s) (e := jY8 b T r x) hL (b := b) (lo := 0) (by simp [jY8]) hb cs.length (by simp) (L' := Sum.elim (fun k => if k = s then none else L k) F) (by
  intro k' e' hne he
  cases k' with
  | inr k => exact he
  | inl k =>
   have : k ≠ s := fun x => hne (by rw [x])
   simpa [this] using he) (fun e' he => by simp at he)
 have htk : cs.toArray.toList.take cs.length = cs := by simp
 rw [htk] at hl2 hst2
 refine ⟨_, hl2, hst2, cs, r.mono hl2 hr, fun j v hj => ?_⟩
 have hjl := (List.getElem?_eq_some_iff.1 hj).1
 rw [Nat.zero_add, jHj hjl, ← hj, List.getElem?_eq_getElem hjl]
theorem At.freezeBox {T : TypeId} {r : Rep α} {x : α} (s : Nat) (hAt : At B h0 Γ Λ F n a w) (hs : Λ s = some (jJb T r x)) :
  At B h0 (fun k => bif Nat.beq s k then jJt r x else Γ k) (fun k => bif Nat.beq s k then none else Λ k) F n a w := by
 obtain ⟨h, L, hle, hst, hOw, hsat, hsz, hdf⟩ := hAt
 obtain ⟨e, hL, b, hv, rfl⟩ := hOw s _ hs
 obtain ⟨h', hl, hst', hr⟩ := hst.freezeBox s hL
 refine ⟨h', _, hle.trans hl, hst', ?_, ?_, hsz, hdf⟩
 ·intro k q hq
  cases hk : Nat.beq s k with
  | true => simp only [hk, cond_true] at hq; cases hq
  | false =>
   simp only [hk, cond_false] at hq
   have : k ≠ s := fun x => by rw [jKb.2 x.symm] at hk; cases hk
   simpa [this] using hOw k q hq
 ·intro k
  cases hk : Nat.beq s k with
  | true =>
   simp only [hk, cond_true]
   rw [jKb] at hk; subst hk
   exact ⟨b, 0, hv, hr⟩
  | false => simp only [hk, cond_false]; exact (Γ k).mono hl (hsat k)
end
end Go.KB
namespace Go.KB
variable {P : Program} {o : Oper} {N : List (Nat × jJr)} {α β : Type}
def qV4 : List (Nat × jWm) → List Po → List Po → Prop
 | (_, q0) :: r, p :: ps, p' :: ps' => (p' = p ∨ (p = .keep ∧ p' = .to q0)) ∧ qV4 r ps ps'
 | [], [], [] => True
 | _, _, _ => False
theorem qV4.ok {E : Nat → Option Ent} {g : Nat → Value} : ∀ {pre : List (Nat × jWm)} {ps ps' : List Po}, qV4 pre ps ps' → jCf pre ps E g → jCf pre ps' E g := by
 intro pre
 induction pre with
 | nil => intro ps ps' h _; cases ps <;> cases ps' <;> first | trivial | exact h.elim
 | cons x r ih =>
  obtain ⟨k, q0⟩ := x
  intro ps ps' h hp
  cases ps with
  | nil => exact h.elim
  | cons p ps => cases ps' with
   | nil => exact h.elim
   | cons p' ps' =>
    obtain ⟨h1, h2⟩ := h
    refine ⟨?_, ih h2 hp.2⟩
    rcases h1 with rfl | ⟨rfl, rfl⟩
    ·exact hp.1
    ·exact hp.1
theorem qYv.post {f : FuncId} {args : List jJr} {pre : List (Nat × jWm)} {ps ps' : List Po} {own : Option jWm} {res : jJr} (h : qYv P f args pre ps own res) (hw : qV4 pre ps ps') : qYv P f args pre ps' own res := by
 intro κ B L h0 w vs E hst hl hpre hargs
 exact (h κ B L h0 w vs E hst hl hpre hargs).mono fun e w' ⟨u, h', E', a, b, c, d, x, y⟩ => ⟨u, h', E', a, b, c, hw.ok d, x, y⟩
section
variable {ρ : Option Nat} {κ : Type} {B : Base} {h0 : H} {Γ : Ctx} {Λ : Own} {F : κ → Option Ent} {n : Nat} {ops : Array Oper} {a : Act} {w : World} {Q : Exit → Act → World → Prop}
end
section
variable {κ : Type} {B : Base} {h0 : H} {Γ : Ctx} {Λ : Own} {F : κ → Option Ent} {n : Nat} {a : Act} {w : World} {vM : Nat → Value} {pre : List (Nat × jWm)} {post : List Po}
end
def jBs {A R : Type} (v : A × Option Nat) (f : A → Option R) (g : A → Option R) : Option R := match v with
 | (x, none) => f x
 | (x, some k) => bif decide (0 = k) then g x else none
end Go.KB
namespace Go.KB
variable {P : Program} {o : Oper} {N : List (Nat × jJr)} {α β ρ : Type}
section
variable {κ : Type} {B : Base} {h : H} {L : Nat → Option Ent} {F : κ → Option Ent} {w : World}
end
section
variable {κ : Type} {B : Base} {h0 : H} {Γ : Ctx} {Λ : Own} {F : κ → Option Ent} {n : Nat} {a : Act} {w : World}
end
end Go.KB
namespace Go.KB
variable {P : Program} {o : Oper} {N : List (Nat × jJr)} {α β : Type}
end Go.KB
namespace Go.KB
variable {P : Program} {o : Oper} {N : List (Nat × jJr)} {α β ρ : Type}
section
variable {κ : Type} {B : Base} {h0 : H} {Γ : Ctx} {Λ : Own} {F : κ → Option Ent} {n : Nat} {a : Act} {w : World}
end
end Go.KB
namespace Go.KB
variable {P : Program} {α β : Type}
section
variable {ρ : Option Nat} {κ : Type} {B : Base} {h0 : H} {Γ : Ctx} {Λ : Own} {F : κ → Option Ent} {n : Nat} {a : Act} {w : World} {vM : Nat → Value} {pre : List (Nat × jWm)} {post : List Po}
end
end Go.KB
