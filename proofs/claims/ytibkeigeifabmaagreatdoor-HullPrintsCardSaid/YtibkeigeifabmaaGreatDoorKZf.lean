/- Raw cells, variables that hold maps, variables that are captured or that go to keys that are no slots. Functions as numbers, slices of which nil is known, regions in parts, objects that are handed back. Variables of which several fields are rows or maps that are owned. clear of the end of a row that is owned. Struct values of which several fields are rows that are owned: variables, arguments, results. maps.Clone: a copy of a map that is owned. No condition. -/
import Derived.Test.YtibkeigeifabmaaGreatDoorKZe
import Derived.Lib.LazyBuf
namespace Go.KB
variable {P : Program} {o : Oper} {N : List (Nat × jJm)} {α β : Type}
section
variable {κ : Type} {B : Base} {h0 : H} {Γ : Ctx} {Λ : Own} {F : κ → Option Ent} {n : Nat} {a : Act} {w : World}
theorem At.boxGhost {T : TypeId} {r : Rep α} {x : α} (s g : Nat) (hsg : Nat.beq s g = false) (hAt : At B h0 Γ Λ F n a w) (hs : Λ s = some (jJh T r x)) :
  ∃ sv, At B h0 (fun k => bif Nat.beq s k then fIs sv else Γ k) (fun k => bif Nat.beq g k then some (atV (jQf T r x []) sv) else bif Nat.beq s k then none else Λ k) F n a w := by
 have h1 := hAt.swapE (q' := jQf T r x []) s hs (fun v e ⟨b, hv, he⟩ => ⟨jZy b T r x [], ⟨b, [], hv, trivial, ⟨List.Pairwise.nil, fun u hu => by cases hu⟩, rfl⟩, by
  subst he
  intro c hc
  exact ⟨c, by simpa [jZy, jLw, qZc] using hc, rfl, Nat.le_refl _⟩, by
  subst he
  rintro h m ⟨cs, h1, h2⟩
  exact ⟨⟨cs, h1, h2, fun u hu => by cases hu⟩, fun u hu => by cases hu⟩⟩)
 obtain ⟨sv, h2⟩ := h1.toVal (q := jQf T r x []) s g hsg (by simp [Nat.beq_refl])
 refine ⟨sv, ?_⟩
 have e : (fun k => bif Nat.beq g k then some (atV (jQf T r x []) sv) else bif Nat.beq s k then none else bif Nat.beq s k then some (jQf T r x []) else Λ k) = (fun k => bif Nat.beq g k then some (atV (jQf T r x []) sv) else bif Nat.beq s k then none else Λ k) := by
  funext k
  cases Nat.beq g k <;> cases Nat.beq s k <;> rfl
 rw [e] at h2
 exact h2
end
theorem jGx {r : Rep α} {x : α} {T : TypeId} {ts : List jQw} {Γ : Ctx} {Λ : Own} {s g : Nat} {sv : Value} (t : jWm P T r) (hf : Γ s = fIs sv) (hs : Λ g = some (atV (jQf T r x ts) sv)) : qQc P Γ Λ (.cell s T) (fV r x) := by
 intro κ B F h a w L hst hOw hsat
 obtain ⟨e, hL, b, us, hv, _, _, rfl⟩ := hOw g _ hs
 have h1 := hsat s
 rw [hf] at h1
 have h1 : a.gt s = sv := h1
 obtain ⟨⟨cs, hb, hrel, _⟩, _⟩ := jGr hst hL
 obtain ⟨c, hc, hrun⟩ := jKy t (Lens.refl r) hb hrel
 refine ⟨pack r.agg c, ?_, c, hc, rfl⟩
 have hv' : a.tmps.getD s undef = .pointer (some ⟨b, 0, none⟩) := h1.trans hv
 have hrun' : (loadVar T ⟨b, 0, none⟩).run P w = .ok (pack r.agg c) w := by simpa [Instr.loadAt, Instr.sureAddr] using hrun
 simp only [resV, hv', asAddr, Sem.run_bind, Sem.run_pure, Result.andThen_ok, hrun']
theorem jKw {T : TypeId} {r : Rep α} {y : α} {ts : List jQw} {g : Nat} {sv : Value} {x : Operand} (ho : o.op = .nilCheck x) (hx : jQb N x (fIs sv)) : jXf P o N [(g, atV (jQf T r y ts) sv)] (fIs sv) [] := by
 intro κ B F L h a w hst hn hk _ next Q hnext _
 obtain ⟨e, _, b, us, hv, _⟩ := hk.1
 have hx' : a.eval x = sv := hx h a hn
 unfold Oper.wpK
 have : (execOp a.eval o).run P w = .ok (.value sv) w := by simp [execOp, ho, hx', hv]
 rw [this]
 exact hnext _ h w L (Hle.refl h) rfl hst jWe
end Go.KB
namespace Go.KB
variable {P : Program} {o : Oper} {N : List (Nat × jJm)} {α β : Type}
def Rep.fnum : Rep (Option Nat) := Rep.scalar (fun x => match x with | some f => .func (.func f) #[] #[] | none => .nilFunc) none (by intro x; cases x <;> rfl)
theorem qUc {h : H} {v : Value} {x : Option Nat} : Rep.fnum.val h v x ↔ v = (match x with | some f => .func (.func f) #[] #[] | none => .nilFunc) :=
 ⟨fun ⟨_, e, e'⟩ => by rw [e', show _ = _ from e]; rfl, fun e => ⟨_, rfl, e⟩⟩
def qUh : List (Nat × jZp) → List Po → List Po → Prop
 | (_, q0) :: r, p :: ps, p' :: ps' => (p' = p ∨ (p = .keep ∧ p' = .to q0)) ∧ qUh r ps ps'
 | [], [], [] => True
 | _, _, _ => False
theorem qUh.ok {E : Nat → Option Ent} {g : Nat → Value} : ∀ {pre : List (Nat × jZp)} {ps ps' : List Po}, qUh pre ps ps' → jN3 pre ps E g → jN3 pre ps' E g := by
 intro pre
 induction pre with
 | nil => intro ps ps' h _; cases ps <;> cases ps' <;> first | trivial | exact h.elim
 | cons x r ih =>
  obtain ⟨k, q0⟩ := x
  intro ps ps' h hp
  cases ps with
  | nil => exact h.elim
  | cons p ps => cases ps' with
   | nil => exact h.elim
   | cons p' ps' =>
    obtain ⟨h1, h2⟩ := h
    refine ⟨?_, ih h2 hp.2⟩
    rcases h1 with rfl | ⟨rfl, rfl⟩
    ·exact hp.1
    ·exact hp.1
theorem jMz.post {f : FuncId} {args : List jJm} {pre : List (Nat × jZp)} {ps ps' : List Po} {own : Option jZp} {res : jJm} (h : jMz P f args pre ps own res) (hw : qUh pre ps ps') : jMz P f args pre ps' own res := by
 intro κ B L h0 w vs E hst hl hpre hargs
 exact (h κ B L h0 w vs E hst hl hpre hargs).mono fun e w' ⟨u, h', E', a, b, c, d, x, y⟩ => ⟨u, h', E', a, b, c, hw.ok d, x, y⟩
section
variable {ρ : Option Nat} {κ : Type} {B : Base} {h0 : H} {Γ : Ctx} {Λ : Own} {F : κ → Option Ent} {n : Nat} {ops : Array Oper} {a : Act} {w : World} {Q : Exit → Act → World → Prop}
end
section
variable {κ : Type} {B : Base} {h0 : H} {Γ : Ctx} {Λ : Own} {F : κ → Option Ent} {n : Nat} {a : Act} {w : World} {vM : Nat → Value} {pre : List (Nat × jZp)} {post : List Po}
end
theorem jHe {f : FuncId} {args C : List jJm} {pre : List (Nat × jZp)} {post : List Po} {res : jJm} {xs : List Operand} {gs : List Nat} {K : List (Nat × jZp)} {U : Upd}
  (hc : jMz P f (args ++ C) pre post none res) (hE : jCg P N o xs f C) (hd : jV2 (res :: args) = true) (hchk : (jTg pre gs && !(match o.dst with | some d => has gs d | none => false)) = true)
  (hargs : jUw N args xs) (hkey : jU7 N xs pre post gs) (hK : qGl pre gs = K) (hU : qJp gs post ++ qUn none o.dst = U) : jXf P o N K jJm.triv U :=
 jXf.out (f := res) (by
  have := jZ5 hd res List.mem_cons_self
  rw [this]; rfl) (fun _ _ _ _ => trivial) (jDb hc hE hd hchk hargs hkey hK hU)
theorem opdNF : jQb N (.const .nilFunc) (fV Rep.fnum none) := fun _ _ _ => qUc.2 rfl
def jTf {A R : Type} (v : A × Option Nat) (f : A → Option R) (g : A → Option R) : Option R := match v with
 | (x, none) => f x
 | (x, some k) => bif decide (0 = k) then g x else none
theorem sjN {A R : Type} {f g : A → Option R} {x : A} {r : R} (H : jTf (x, none) f g = some r) : f x = some r := H
theorem sjS {A R : Type} {f g : A → Option R} {x : A} {k : Nat} {r : R} (H : jTf (x, some k) f g = some r) : 0 = k ∧ g x = some r := by
 unfold jTf at H
 by_cases hk : 0 = k
 ·simp only [hk, decide_true, cond_true] at H; exact ⟨hk, H⟩
 ·simp only [hk, decide_false, cond_false] at H; cases H
end Go.KB
namespace Go.KB
variable {P : Program} {o : Oper} {N : List (Nat × jJm)} {α β ρ : Type}
section
variable {κ : Type} {B : Base} {h : H} {L : Nat → Option Ent} {F : κ → Option Ent} {w : World}
end
section
variable {κ : Type} {B : Base} {h0 : H} {Γ : Ctx} {Λ : Own} {F : κ → Option Ent} {n : Nat} {a : Act} {w : World}
end
end Go.KB
namespace Go.KB
variable {P : Program} {o : Oper} {N : List (Nat × jJm)} {α β : Type}
end Go.KB
namespace Go.KB
variable {P : Program} {o : Oper} {N : List (Nat × jJm)} {α β ρ : Type}
section
variable {κ : Type} {B : Base} {h0 : H} {Γ : Ctx} {Λ : Own} {F : κ → Option Ent} {n : Nat} {a : Act} {w : World}
end
end Go.KB
namespace Go.KB
variable {P : Program} {α β : Type}
section
variable {ρ : Option Nat} {κ : Type} {B : Base} {h0 : H} {Γ : Ctx} {Λ : Own} {F : κ → Option Ent} {n : Nat} {a : Act} {w : World} {vM : Nat → Value} {pre : List (Nat × jZp)} {post : List Po}
end
end Go.KB
