/- Functions that use what lies at known places: entries under keys that are slots, or no slots. Ranges over maps that are owned: whatever the order. Ranges over functions: the iterator, yield, the rounds. The rule on ranges over functions. No condition. -/
import Derived.Test.YthoopaegiclfaaaGreatKZd
import Derived.Maps.RangeRun
import Derived.RangeFuncCalls
import Derived.RangeFuncBound
namespace Go.KB
variable {P : Program} {o : Oper} {N : List (Nat × jJr)} {α β γ : Type}
def plc (vs : Nat → Value) (k : Nat) : Value := bif Nat.ble 5000 k then undef else vs k
def qVz : List (Nat × jWm) → (Nat → Option Ent) → (Nat → Value) → Prop
 | [], _, _ => True
 | (k, q) :: r, E, g => (∃ e, E k = some e ∧ q (g k) e) ∧ qVz r E g
inductive Po where
 | keep
 | to (q : jWm)
 | gone
def jCf : List (Nat × jWm) → List Po → (Nat → Option Ent) → (Nat → Value) → Prop
 | (k, q0) :: r, p :: ps, E, g => (match p with | .to q => ∃ e, E k = some e ∧ q (g k) e | .keep => ∃ e, E k = some e ∧ q0 (g k) e | .gone => True) ∧ jCf r ps E g
 | _, _, _, _ => True
def OwnRes (own : Option jWm) (E : Nat → Option Ent) (u : Value) : Prop := match own with | some q => ∃ e, E 9999 = some e ∧ q u e | none => True
def qYv (P : Program) (f : FuncId) (args : List jJr) (pre : List (Nat × jWm)) (post : List Po) (own : Option jWm) (res : jJr) : Prop :=
 ∀ (κ : Type) (B : Base) (L : κ → Option Ent) (h : H) (w : World) (vs : List Value) (E : Nat → Option Ent), St B h (Sum.elim E L) w → args.length = vs.length → qVz pre E (plc fun k => vs.getD k undef) →
  (∀ (j : Nat) (g : jJr) (u : Value), args[j]? = some g → vs[j]? = some u → g.p h undef u) →
  Calls P f vs.toArray w (fun e w' => ∃ u h' E', e = .returned u ∧ Hle h h' ∧ St B h' (Sum.elim E' L) w' ∧ jCf pre post E' (plc fun k => vs.getD k undef) ∧ OwnRes own E' u ∧ res.p h' undef u)
theorem qVz.get {E : Nat → Option Ent} {g : Nat → Value} : ∀ {pre : List (Nat × jWm)}, qVz pre E g → ∀ {k q}, mkO pre k = some q → ∃ e, E k = some e ∧ q (g k) e := by
 intro pre
 induction pre with
 | nil => intro _ k q h; cases h
 | cons x r ih =>
  obtain ⟨k0, q0⟩ := x
  intro h k q hq
  simp only [mkO, lkO] at hq
  cases hk : Nat.beq k0 k with
  | true => rw [hk] at hq; cases hq; rw [jKb] at hk; subst hk; exact h.1
  | false => rw [hk] at hq; exact ih h.2 hq
section
variable {κ : Type} {B : Base} {h h0 : H} {L : Nat → Option Ent} {Γ : Ctx} {Λ : Own} {F : κ → Option Ent} {n : Nat} {a : Act} {w : World} {vM : Nat → Value} {pre : List (Nat × jWm)} {post : List Po} {res : jJr}
def Gh (q : jWm) : Prop := ∀ v v' e, q v e → q v' e
theorem Gh.at {q : jWm} {sv : Value} : Gh (atV q sv) := fun _ _ _ h => h
def PostA (Γ : Ctx) (Λ : Own) (vM : Nat → Value) : List (Nat × jWm) → List Po → Prop
 | (k, q0) :: r, p :: ps => (match p with | .to q => Λ k = some q ∧ ((Nat.ble 5000 k = true ∧ Gh q) ∨ (Nat.ble 5000 k = false ∧ Γ k = fIs (vM k))) | .keep => Λ k = some q0 ∧ ((Nat.ble 5000 k = true ∧ Gh q0) ∨ (Nat.ble 5000 k = false ∧ Γ k = fIs (vM k))) | .gone => True) ∧ PostA Γ Λ vM r ps
 | _, _ => True
theorem PostA.ok {E : Nat → Option Ent} (hOw : qZx Λ L a) (hsat : Sat Γ h a) : ∀ {pre : List (Nat × jWm)} {post : List Po}, PostA Γ Λ vM pre post → (∀ k q, (k, q) ∈ pre → E k = L k) → jCf pre post E (plc vM) := by
 intro pre
 induction pre with
 | nil => intro post _ _; cases post <;> trivial
 | cons x r ih =>
  obtain ⟨k, q0⟩ := x
  intro post hp hE
  cases post with
  | nil => trivial
  | cons p ps =>
   refine ⟨?_, ih hp.2 (fun k q hk => hE k q (List.mem_cons_of_mem _ hk))⟩
   have key : ∀ q, Λ k = some q ∧ ((Nat.ble 5000 k = true ∧ Gh q) ∨ (Nat.ble 5000 k = false ∧ Γ k = fIs (vM k))) → ∃ e, E k = some e ∧ q (plc vM k) e := by
    rintro q ⟨h1, h2⟩
    obtain ⟨e, hL, hq⟩ := hOw k q h1
    refine ⟨e, by rw [hE k q0 (by simp)]; exact hL, ?_⟩
    unfold plc
    rcases h2 with ⟨h5, hg⟩ | ⟨h5, hf⟩
    ·exact hg _ _ _ hq
    ·rw [h5, cond_false]
     have := hsat k
     rw [hf] at this
     have hv : a.gt k = vM k := this
     rw [← hv]; exact hq
   cases p with
   | gone => trivial
   | to q => exact key q hp.1
   | keep => exact key q0 hp.1
end
def jTz (N : List (Nat × jJr)) (xs : List Operand) : List (Nat × jWm) → List Po → List Nat → Prop
 | (k, q) :: r, p :: ps, g :: gs => ((Nat.ble 5000 k = true ∧ Gh q ∧ (∀ q', p = .to q' → Gh q')) ∨ (Nat.ble 5000 k = false ∧ ∃ x, xs[k]? = some x ∧ jJ7 N x (fCp g))) ∧ jTz N xs r ps gs
 | [], [], [] => True
 | _, _, _ => False
theorem jTz.slot {xs : List Operand} {k g : Nat} {q : jWm} {p : Po} {x : Operand} {r ps gs} (h5 : Nat.ble 5000 k = false) (h1 : xs[k]? = some x) (h2 : jJ7 N x (fCp g)) (h : jTz N xs r ps gs) : jTz N xs ((k, q) :: r) (p :: ps) (g :: gs) := ⟨.inr ⟨h5, x, h1, h2⟩, h⟩
section
variable {L : Nat → Option Ent} {h : H} {a : Act} {xs : List Operand} {cap : List Value}
end
end Go.KB
namespace Go.KB
variable {P : Program} {o : Oper} {N : List (Nat × jJr)} {α β : Type}
theorem jSd.split {f : α → Value} {rv : Rep β} {h : H} : ∀ {es : List MapEntry} {l : List (α × β)} {e : MapEntry}, jSd f rv h es l → e ∈ es → ∃ e1 e2 r1 p r2, es = e1 ++ e :: e2 ∧ l = r1 ++ p :: r2 ∧ e.key = f p.1 ∧ rv.val h e.val p.2 ∧ jSd f rv h (e1 ++ e2) (r1 ++ r2)
 | [], _, _, _, he => by cases he
 | x :: es, [], _, hr, _ => hr.elim
 | x :: es, p :: l, e, ⟨hx, hr⟩, he => by
  rcases List.mem_cons.1 he with rfl | he
  ·exact ⟨[], es, [], p, l, rfl, rfl, hx.1, hx.2, hr⟩
  ·obtain ⟨e1, e2, r1, p', r2, h1, h2, h3, h4, h5⟩ := jSd.split hr he
   exact ⟨x :: e1, e2, p :: r1, p', r2, by rw [h1]; rfl, by rw [h2]; rfl, h3, h4, hx, h5⟩
section
variable {ρ : Option Nat} {κ : Type} {B : Base} {h0 : H} {Γ : Ctx} {Λ : Own} {F : κ → Option Ent} {n : Nat} {a : Act} {w : World} {Q : Exit → Act → World → Prop} {sm si : Value} {f : α → Value} {rv : Rep β} {l rem : List (α × β)}
end
end Go.KB
namespace Go.KB
variable {P : Program} {o : Oper} {N : List (Nat × jJr)} {α β : Type}
abbrev KE := List (Nat × Ent)
def lkE : KE → Nat → Option Ent
 | [], _ => none
 | (k, e) :: r, s => bif Nat.beq k s then some e else lkE r s
def DisjK (l : KE) : Prop := l.Pairwise fun p p' => qZ9 p.2.claims p'.2.claims
theorem qZr : ∀ {l : KE} {k : Nat} {e : Ent}, lkE l k = some e → (k, e) ∈ l := by
 intro l
 induction l with
 | nil => intro k e h; cases h
 | cons x r ih =>
  obtain ⟨k0, e0⟩ := x
  intro k e h
  simp only [lkE] at h
  cases hk : Nat.beq k0 k with
  | true => rw [hk] at h; cases h; rw [jKb] at hk; subst hk; simp
  | false => rw [hk] at h; exact List.mem_cons_of_mem _ (ih h)
theorem DisjK.get {l : KE} (hd : DisjK l) : ∀ {k k' : Nat} {e e' : Ent}, lkE l k = some e → lkE l k' = some e' → k ≠ k' → qZ9 e.claims e'.claims := by
 induction l with
 | nil => intro k k' e e' h; cases h
 | cons x r ih =>
  obtain ⟨k0, e0⟩ := x
  intro k k' e e' h h' hne
  obtain ⟨h1, h2⟩ := List.pairwise_cons.1 hd
  simp only [lkE] at h h'
  cases hk : Nat.beq k0 k with
  | true =>
   rw [hk] at h; cases h
   rw [jKb] at hk; subst hk
   have hk' : Nat.beq k0 k' = false := by rw [Bool.eq_false_iff, Ne, jKb]; exact hne
   rw [hk'] at h'
   exact h1 _ (qZr h')
  | false =>
   rw [hk] at h
   cases hk' : Nat.beq k0 k' with
   | true =>
    rw [hk'] at h'; cases h'
    have := h1 _ (qZr h)
    exact fun c hc c' hc' he => this c' hc' c hc he.symm
   | false => rw [hk'] at h'; exact ih h2 h h' hne
section
variable {κ : Type} {B : Base} {h : H} {L : Nat → Option Ent} {F : κ → Option Ent} {w : World}
end
def mark (D : Nat) : Deferred := { target := .collected D, args := #[] }
section
variable {κ : Type} {B : Base} {h h0 : H} {L : Nat → Option Ent} {Γ : Ctx} {Λ : Own} {F : κ → Option Ent} {n : Nat} {a : Act} {w : World} {l D : Nat} {r : Loop}
end
end Go.KB
namespace Go.KB
variable {P : Program}
section
variable {κ : Type} {B : Base} {h0 : H} {Λ : Own} {F : κ → Option Ent} {n : Nat} {a : Act} {w : World}
end
end Go.KB
