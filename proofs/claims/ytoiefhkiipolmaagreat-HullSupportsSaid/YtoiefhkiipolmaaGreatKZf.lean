/- Raw cells, variables that hold maps, variables that are captured or that go to keys that are no slots. Functions as numbers, slices of which nil is known, regions in parts, objects that are handed back. Variables of which several fields are rows or maps that are owned. clear of the end of a row that is owned. Struct values of which several fields are rows that are owned: variables, arguments, results. maps.Clone: a copy of a map that is owned. No condition. -/
import Derived.Test.YtoiefhkiipolmaaGreatKZe
import Derived.Lib.LazyBuf
namespace Go.KB
variable {P : Program} {o : Oper} {N : List (Nat × jJh)} {α β : Type}
section
variable {κ : Type} {B : Base} {h0 : H} {Γ : Ctx} {Λ : Own} {F : κ → Option Ent} {n : Nat} {a : Act} {w : World}
theorem At.boxGhost {T : TypeId} {r : Rep α} {x : α} (s g : Nat) (hsg : Nat.beq s g = false) (hAt : At B h0 Γ Λ F n a w) (hs : Λ s = some (jJb T r x)) :
  ∃ sv, At B h0 (fun k => bif Nat.beq s k then fIs sv else Γ k) (fun k => bif Nat.beq g k then some (atV (jZe T r x []) sv) else bif Nat.beq s k then none else Λ k) F n a w := by
 have h1 := hAt.swapE (q' := jZe T r x []) s hs (fun v e ⟨b, hv, he⟩ => ⟨jZc b T r x [], ⟨b, [], hv, trivial, ⟨List.Pairwise.nil, fun u hu => by cases hu⟩, rfl⟩, by
  subst he
  intro c hc
  exact ⟨c, by simpa [jZc, jNs, qV3] using hc, rfl, Nat.le_refl _⟩, by
  subst he
  rintro h m ⟨cs, h1, h2⟩
  exact ⟨⟨cs, h1, h2, fun u hu => by cases hu⟩, fun u hu => by cases hu⟩⟩)
 obtain ⟨sv, h2⟩ := h1.toVal (q := jZe T r x []) s g hsg (by simp [Nat.beq_refl])
 refine ⟨sv, ?_⟩
 have e : (fun k => bif Nat.beq g k then some (atV (jZe T r x []) sv) else bif Nat.beq s k then none else bif Nat.beq s k then some (jZe T r x []) else Λ k) = (fun k => bif Nat.beq g k then some (atV (jZe T r x []) sv) else bif Nat.beq s k then none else Λ k) := by
  funext k
  cases Nat.beq g k <;> cases Nat.beq s k <;> rfl
 rw [e] at h2
 exact h2
end
theorem qK2 {r : Rep α} {x : α} {T : TypeId} {ts : List jX1} {Γ : Ctx} {Λ : Own} {s g : Nat} {sv : Value} (t : jYt P T r) (hf : Γ s = fIs sv) (hs : Λ g = some (atV (jZe T r x ts) sv)) : qV7 P Γ Λ (.cell s T) (fV r x) := by
 intro κ B F h a w L hst hOw hsat
 obtain ⟨e, hL, b, us, hv, _, _, rfl⟩ := hOw g _ hs
 have h1 := hsat s
 rw [hf] at h1
 have h1 : a.gt s = sv := h1
 obtain ⟨⟨cs, hb, hrel, _⟩, _⟩ := jBr hst hL
 obtain ⟨c, hc, hrun⟩ := jGq t (Lens.refl r) hb hrel
 refine ⟨pack r.agg c, ?_, c, hc, rfl⟩
 have hv' : a.tmps.getD s undef = .pointer (some ⟨b, 0, none⟩) := h1.trans hv
 have hrun' : (loadVar T ⟨b, 0, none⟩).run P w = .ok (pack r.agg c) w := by simpa [Instr.loadAt, Instr.sureAddr] using hrun
 simp only [resV, hv', asAddr, Sem.run_bind, Sem.run_pure, Result.andThen_ok, hrun']
end Go.KB
namespace Go.KB
variable {P : Program} {o : Oper} {N : List (Nat × jJh)} {α β : Type}
def Rep.fnum : Rep (Option Nat) := Rep.scalar (fun x => match x with | some f => .func (.func f) #[] #[] | none => .nilFunc) none (by intro x; cases x <;> rfl)
theorem qUc {h : H} {v : Value} {x : Option Nat} : Rep.fnum.val h v x ↔ v = (match x with | some f => .func (.func f) #[] #[] | none => .nilFunc) :=
 ⟨fun ⟨_, e, e'⟩ => by rw [e', show _ = _ from e]; rfl, fun e => ⟨_, rfl, e⟩⟩
def qU3 : List (Nat × jZ2) → List Po → List Po → Prop
 | (_, q0) :: r, p :: ps, p' :: ps' => (p' = p ∨ (p = .keep ∧ p' = .to q0)) ∧ qU3 r ps ps'
 | [], [], [] => True
 | _, _, _ => False
theorem qU3.ok {E : Nat → Option Ent} {g : Nat → Value} : ∀ {pre : List (Nat × jZ2)} {ps ps' : List Po}, qU3 pre ps ps' → jP2 pre ps E g → jP2 pre ps' E g := by
 intro pre
 induction pre with
 | nil => intro ps ps' h _; cases ps <;> cases ps' <;> first | trivial | exact h.elim
 | cons x r ih =>
  obtain ⟨k, q0⟩ := x
  intro ps ps' h hp
  cases ps with
  | nil => exact h.elim
  | cons p ps => cases ps' with
   | nil => exact h.elim
   | cons p' ps' =>
    obtain ⟨h1, h2⟩ := h
    refine ⟨?_, ih h2 hp.2⟩
    rcases h1 with rfl | ⟨rfl, rfl⟩
    ·exact hp.1
    ·exact hp.1
theorem jCj.post {f : FuncId} {args : List jJh} {pre : List (Nat × jZ2)} {ps ps' : List Po} {own : Option jZ2} {res : jJh} (h : jCj P f args pre ps own res) (hw : qU3 pre ps ps') : jCj P f args pre ps' own res := by
 intro κ B L h0 w vs E hst hl hpre hargs
 exact (h κ B L h0 w vs E hst hl hpre hargs).mono fun e w' ⟨u, h', E', a, b, c, d, x, y⟩ => ⟨u, h', E', a, b, c, hw.ok d, x, y⟩
section
variable {ρ : Option Nat} {κ : Type} {B : Base} {h0 : H} {Γ : Ctx} {Λ : Own} {F : κ → Option Ent} {n : Nat} {ops : Array Oper} {a : Act} {w : World} {Q : Exit → Act → World → Prop}
end
section
variable {κ : Type} {B : Base} {h0 : H} {Γ : Ctx} {Λ : Own} {F : κ → Option Ent} {n : Nat} {a : Act} {w : World} {vM : Nat → Value} {pre : List (Nat × jZ2)} {post : List Po}
end
theorem iteN {A : Type} {g : Bool} {a : Option A} {b v : A} (hg : ¬ g = true) (h : (bif g then a else some b) = some v) : b = v := by
 cases g
 ·exact Option.some.inj h
 ·exact absurd rfl hg
theorem jPf.ye {X : Type} {YE : X → Ent → Prop} {x x' : X} {g : Nat} {d : Option Nat} (hd : qKs d g = true) (hx : x = x') : jPf [(g, yE YE x)] [(g, some (yE YE x'))] d := by
 subst hx
 intro s e h
 simp only [lkU] at h
 cases hb : Nat.beq g s with
 | true =>
  rw [hb] at h; cases h
  rw [jYh] at hb; subst hb
  exact ⟨fun e => by unfold qKs at hd; rw [e] at hd; simp [Nat.beq_refl] at hd, _, _, rfl, by simp, fun _ _ h => h⟩
 | false => rw [hb] at h; cases h
theorem opdNF : jQp N (.const .nilFunc) (fV Rep.fnum none) := fun _ _ _ => qUc.2 rfl
def jC6 {A R : Type} (v : A × Option Nat) (f : A → Option R) (g : A → Option R) : Option R := match v with
 | (x, none) => f x
 | (x, some k) => bif decide (0 = k) then g x else none
theorem sjN {A R : Type} {f g : A → Option R} {x : A} {r : R} (H : jC6 (x, none) f g = some r) : f x = some r := H
theorem sjS {A R : Type} {f g : A → Option R} {x : A} {k : Nat} {r : R} (H : jC6 (x, some k) f g = some r) : 0 = k ∧ g x = some r := by
 unfold jC6 at H
 by_cases hk : 0 = k
 ·simp only [hk, decide_true, cond_true] at H; exact ⟨hk, H⟩
 ·simp only [hk, decide_false, cond_false] at H; cases H
end Go.KB
namespace Go.KB
variable {P : Program} {o : Oper} {N : List (Nat × jJh)} {α β ρ : Type}
section
variable {κ : Type} {B : Base} {h : H} {L : Nat → Option Ent} {F : κ → Option Ent} {w : World}
end
section
variable {κ : Type} {B : Base} {h0 : H} {Γ : Ctx} {Λ : Own} {F : κ → Option Ent} {n : Nat} {a : Act} {w : World}
end
end Go.KB
namespace Go.KB
variable {P : Program} {o : Oper} {N : List (Nat × jJh)} {α β : Type}
end Go.KB
namespace Go.KB
variable {P : Program} {o : Oper} {N : List (Nat × jJh)} {α β ρ : Type}
section
variable {κ : Type} {B : Base} {h0 : H} {Γ : Ctx} {Λ : Own} {F : κ → Option Ent} {n : Nat} {a : Act} {w : World}
end
end Go.KB
namespace Go.KB
variable {P : Program} {α β : Type}
section
variable {ρ : Option Nat} {κ : Type} {B : Base} {h0 : H} {Γ : Ctx} {Λ : Own} {F : κ → Option Ent} {n : Nat} {a : Act} {w : World} {vM : Nat → Value} {pre : List (Nat × jZ2)} {post : List Po}
end
end Go.KB
