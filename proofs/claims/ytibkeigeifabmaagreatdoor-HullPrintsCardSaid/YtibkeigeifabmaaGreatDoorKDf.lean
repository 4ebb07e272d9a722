/- A function that defers a closure of which the captured variables are known: nothing is to be recovered as it returns. No condition. -/
import Derived.Test.YtibkeigeifabmaaGreatDoorKBl
import Derived.RecoverIn
namespace Go.KB
variable {P : Program} {κ : Type} {B : Base} {h0 : H} {Γ : Ctx} {Λ : Own} {F : κ → Option Ent} {n : Nat} {a : Act} {w : World}
def qVv (f : FuncId) (vs : List Value) : Deferred := { target := .fn (.func f) vs.toArray, args := #[] }
def Caps (Γ : Ctx) : List Operand → List Value → Prop
  | x :: xs, v :: vs => (∃ s, x = .tmp s ∧ Γ s = fIs v) ∧ Caps Γ xs vs
  | [], [] => True
  | _, _ => False
theorem Caps.eval {h : H} {a : Act} (hs : Sat Γ h a) : ∀ {xs : List Operand} {vs : List Value}, Caps Γ xs vs → xs.map a.eval = vs
  | [], [], _ => rfl
  | x :: xs, v :: vs, ⟨⟨s, hx, hv⟩, hr⟩ => by
    have := hs s
    rw [hv] at this
    have e : a.gt s = v := this
    subst hx
    simp only [List.map_cons, Caps.eval hs hr]
    exact congrArg (· :: vs) e
  | [], _ :: _, k => k.elim
  | _ :: _, [], k => k.elim
def qUs (d : Nat) : List (Nat × jJm) → Bool
  | [] => true
  | q :: l => (match q.2.dep with | none => true | some e => !Nat.beq e d) && qUs d l
theorem qX4 {d : Nat} : ∀ {l : List (Nat × jJm)}, qUs d l = true → ∀ s, (mkG l s).dep ≠ some d
  | [], _, s => by simp [mkG, lkF, jJm.triv]
  | q :: l, h, s => by
    rw [qUs, Bool.and_eq_true] at h
    simp only [mkG, lkF]
    cases Nat.beq q.1 s with
    | true =>
      intro e
      have h1 := h.1
      simp only [cond_true] at e
      rw [e] at h1
      simp at h1
    | false => exact qX4 h.2 s
theorem qQs {id f d : Nat} {xs : Array Operand} {vs : List Value} {o1 o2 : Oper} {l : List (Nat × jJm)} {Q : Exit → Act → World → Prop} (hAt : At B h0 (mkG l) Λ F n a w) (h1 : o1.op = .makeFunc (.func f) #[] xs) (hd1 : o1.dst = some d) (hg1 : o1.guard = none)
    (h2 : o2.op = .defer { callee := .value (.tmp d), args := #[], argTypes := #[] }) (hd2 : o2.dst = none) (hg2 : o2.guard = none) (hdn : d < n) (hl : Λ d = none) (hno : qUs d l = true) (hm : lkF l d = jJm.triv) (hc : Caps (mkG l) xs.toList vs)
    (hk : ∀ a w, At (B.d (qVv f vs)) h0 (mkG l) Λ F n a w → Q .normal a w) : (Code.region id #[o1, o2] false).wpK none P Q a w := by
  refine qX6.2 (wp_region ?_)
  obtain ⟨h, L, hle, hst, hOw, hsat, hsz, hdf⟩ := hAt
  have hx : xs.map a.eval = vs.toArray := by
    have := Caps.eval hsat hc
    apply Array.ext'
    simpa using this
  have e1 : (execOp a.eval o1).run P w = .ok (.value (.func (.func f) #[] vs.toArray)) w := by
    have hm : (Instr.makeFunc (.func f) #[] vs.toArray).run P w = .ok (.func (.func f) #[] vs.toArray) w := rfl
    simp only [execOp, h1, hx, Array.map_empty, Sem.run_bind, hm, Result.andThen_ok, Sem.run_pure]
  have e2 : (execOp (a.put (some d) (.func (.func f) #[] vs.toArray)).eval o2).run P w = .ok (.defer (qVv f vs)) w := by
    have : (a.put (some d) (.func (.func f) #[] vs.toArray)).eval (.tmp d) = .func (.func f) #[] vs.toArray := jQa (by rw [hsz]; exact hdn)
    simp only [execOp, h2, resolve, this, Deferred.ofValue]
    simp [qVv, Sem.run_pure]
  show wpOps P #[o1, o2] Q [0, 1] a w
  simp only [wpOps, List.getElem?_toArray, List.getElem?_cons_zero, List.getElem?_cons_succ, Region.wanted, hg1, hg2, Oper.wp, if_true]
  rw [e1]
  refine .inl ?_
  rw [Oper.upon_value, hd1]
  refine .inl ?_
  rw [e2, Oper.upon_defer, hd2]
  refine hk _ _ ⟨h, L, hle, hst.toD, ?_, ?_, ?_, ?_⟩
  · intro s q hq
    obtain ⟨e, h3, h4⟩ := hOw s q hq
    refine ⟨e, h3, ?_⟩
    have : s ≠ d := fun x => by rw [x, hl] at hq; cases hq
    show q ((a.put (some d) _).gt s) e
    rw [jFh this]; exact h4
  · intro s
    by_cases hs : s = d
    · subst hs; show (lkF l s).at h _ s; rw [hm]; exact trivial
    · have := hsat s
      unfold jJm.at at this ⊢
      have e : (mkG l s).dv (({ a.put (some d) (.func (.func f) #[] vs.toArray) with defers := qVv f vs :: (a.put (some d) (.func (.func f) #[] vs.toArray)).defers } : Act).put none undef) = (mkG l s).dv a := by
        unfold jJm.dv
        cases hq : (mkG l s).dep with
        | none => rfl
        | some d' =>
          have : d' ≠ d := fun x => qX4 hno s (by rw [hq, x])
          exact jFh this
      rw [e]
      show (mkG l s).p h _ ((a.put (some d) _).gt s)
      rw [jFh hs]; exact this
  · show (a.put (some d) _).tmps.size = n
    rw [size_put]; exact hsz
  · show qVv f vs :: (a.put (some d) _).defers = _
    rw [jTd, hdf]; rfl
theorem retDf {fn : Func} {R : Ending → World → Prop} {d : Deferred} (hAt : At (B.d d) h0 Γ Λ F n a w) (hi : ∀ w, qHv P d w)
    (hk : ∀ (a : Act) (w : World), At B h0 Γ Λ F n a w → B.df = [] → jRj P fn R .ret a w) : B.df = [] → jRj P fn R .ret a w := by
  intro hB
  obtain ⟨h, L, hle, hst, hOw, hsat, hsz, hdf⟩ := hAt
  have hdf' : a.defers = [d] := by rw [hdf]; show d :: B.df = _; rw [hB]
  rcases hk { a with defers := [] } w ⟨h, L, hle, hst.ofD, fun s q hq => hOw s q hq, fun s => hsat s, hsz, hB.symm⟩ hB with ⟨_, v, h1, h2⟩ | ⟨D', w', h1, _⟩ | ⟨d', h1, _⟩
  · exact .inr (.inr ⟨d, hdf', hi w, v, h1, h2⟩)
  · cases h1
  · cases h1
end Go.KB
