/- Raw cells, variables that hold maps, variables that are captured or that go to keys that are no slots. Functions as numbers, slices of which nil is known, regions in parts, objects that are handed back. Variables of which several fields are rows or maps that are owned. clear of the end of a row that is owned. Struct values of which several fields are rows that are owned: variables, arguments, results. maps.Clone: a copy of a map that is owned. No condition. -/
import Derived.Test.YtcoggcadlinmdaaGreatDoorKZe
import Derived.Lib.LazyBuf
namespace Go.KB
variable {P : Program} {o : Oper} {N : List (Nat × jJd)} {α β : Type}
section
variable {κ : Type} {B : Base} {h0 : H} {Γ : Ctx} {Λ : Own} {F : κ → Option Ent} {n : Nat} {a : Act} {w : World}
theorem At.boxGhost {T : TypeId} {r : Rep α} {x : α} (s g : Nat) (hsg : Nat.beq s g = false) (hAt : At B h0 Γ Λ F n a w) (hs : Λ s = some (jJg T r x)) :
  ∃ sv, At B h0 (fun k => bif Nat.beq s k then fIs sv else Γ k) (fun k => bif Nat.beq g k then some (atV (jQm T r x []) sv) else bif Nat.beq s k then none else Λ k) F n a w := by
 have h1 := hAt.swapE (q' := jQm T r x []) s hs (fun v e ⟨b, hv, he⟩ => ⟨jWk b T r x [], ⟨b, [], hv, trivial, ⟨List.Pairwise.nil, fun u hu => by cases hu⟩, rfl⟩, by
  subst he
  intro c hc
  exact ⟨c, by simpa [jWk, jFp, qYh] using hc, rfl, Nat.le_refl _⟩, by
  subst he
  rintro h m ⟨cs, h1, h2⟩
  exact ⟨⟨cs, h1, h2, fun u hu => by cases hu⟩, fun u hu => by cases hu⟩⟩)
 obtain ⟨sv, h2⟩ := h1.toVal (q := jQm T r x []) s g hsg (by simp [Nat.beq_refl])
 refine ⟨sv, ?_⟩
 have e : (fun k => bif Nat.beq g k then some (atV (jQm T r x []) sv) else bif Nat.beq s k then none else bif Nat.beq s k then some (jQm T r x []) else Λ k) = (fun k => bif Nat.beq g k then some (atV (jQm T r x []) sv) else bif Nat.beq s k then none else Λ k) := by
  funext k
  cases Nat.beq g k <;> cases Nat.beq s k <;> rfl
 rw [e] at h2
 exact h2
end
theorem jKk {r : Rep α} {x : α} {T : TypeId} {ts : List jQb} {Γ : Ctx} {Λ : Own} {s g : Nat} {sv : Value} (t : jYk P T r) (hf : Γ s = fIs sv) (hs : Λ g = some (atV (jQm T r x ts) sv)) : qZx P Γ Λ (.cell s T) (fV r x) := by
 intro κ B F h a w L hst hOw hsat
 obtain ⟨e, hL, b, us, hv, _, _, rfl⟩ := hOw g _ hs
 have h1 := hsat s
 rw [hf] at h1
 have h1 : a.gt s = sv := h1
 obtain ⟨⟨cs, hb, hrel, _⟩, _⟩ := jMc hst hL
 obtain ⟨c, hc, hrun⟩ := jUj t (Lens.refl r) hb hrel
 refine ⟨pack r.agg c, ?_, c, hc, rfl⟩
 have hv' : a.tmps.getD s undef = .pointer (some ⟨b, 0, none⟩) := h1.trans hv
 have hrun' : (loadVar T ⟨b, 0, none⟩).run P w = .ok (pack r.agg c) w := by simpa [Instr.loadAt, Instr.sureAddr] using hrun
 simp only [resV, hv', asAddr, Sem.run_bind, Sem.run_pure, Result.andThen_ok, hrun']
theorem jY5 {T : TypeId} {r : Rep α} {y : α} {ts : List jQb} {g : Nat} {sv : Value} {x : Operand} (ho : o.op = .nilCheck x) (hx : jQf N x (fIs sv)) : jXh P o N [(g, atV (jQm T r y ts) sv)] (fIs sv) [] := by
 intro κ B F L h a w hst hn hk _ next Q hnext _
 obtain ⟨e, _, b, us, hv, _⟩ := hk.1
 have hx' : a.eval x = sv := hx h a hn
 unfold Oper.wpK
 have : (execOp a.eval o).run P w = .ok (.value sv) w := by simp [execOp, ho, hx', hv]
 rw [this]
 exact hnext _ h w L (Hle.refl h) rfl hst jWl
end Go.KB
namespace Go.KB
variable {P : Program} {o : Oper} {N : List (Nat × jJd)} {α β : Type}
def Rep.fnum : Rep (Option Nat) := Rep.scalar (fun x => match x with | some f => .func (.func f) #[] #[] | none => .nilFunc) none (by intro x; cases x <;> rfl)
theorem qKq {h : H} {v : Value} {x : Option Nat} : Rep.fnum.val h v x ↔ v = (match x with | some f => .func (.func f) #[] #[] | none => .nilFunc) :=
 ⟨fun ⟨_, e, e'⟩ => by rw [e', show _ = _ from e]; rfl, fun e => ⟨_, rfl, e⟩⟩
def qKe : List (Nat × jZr) → List Po → List Po → Prop
 | (_, q0) :: r, p :: ps, p' :: ps' => (p' = p ∨ (p = .keep ∧ p' = .to q0)) ∧ qKe r ps ps'
 | [], [], [] => True
 | _, _, _ => False
theorem qKe.ok {E : Nat → Option Ent} {g : Nat → Value} : ∀ {pre : List (Nat × jZr)} {ps ps' : List Po}, qKe pre ps ps' → jL0 pre ps E g → jL0 pre ps' E g := by
 intro pre
 induction pre with
 | nil => intro ps ps' h _; cases ps <;> cases ps' <;> first | trivial | exact h.elim
 | cons x r ih =>
  obtain ⟨k, q0⟩ := x
  intro ps ps' h hp
  cases ps with
  | nil => exact h.elim
  | cons p ps => cases ps' with
   | nil => exact h.elim
   | cons p' ps' =>
    obtain ⟨h1, h2⟩ := h
    refine ⟨?_, ih h2 hp.2⟩
    rcases h1 with rfl | ⟨rfl, rfl⟩
    ·exact hp.1
    ·exact hp.1
theorem jT4.post {f : FuncId} {args : List jJd} {pre : List (Nat × jZr)} {ps ps' : List Po} {own : Option jZr} {res : jJd} (h : jT4 P f args pre ps own res) (hw : qKe pre ps ps') : jT4 P f args pre ps' own res := by
 intro κ B L h0 w vs E hst hl hpre hargs
 exact (h κ B L h0 w vs E hst hl hpre hargs).mono fun e w' ⟨u, h', E', a, b, c, d, x, y⟩ => ⟨u, h', E', a, b, c, hw.ok d, x, y⟩
section
variable {ρ : Option Nat} {κ : Type} {B : Base} {h0 : H} {Γ : Ctx} {Λ : Own} {F : κ → Option Ent} {n : Nat} {ops : Array Oper} {a : Act} {w : World} {Q : Exit → Act → World → Prop}
end
section
variable {κ : Type} {B : Base} {h0 : H} {Γ : Ctx} {Λ : Own} {F : κ → Option Ent} {n : Nat} {a : Act} {w : World} {vM : Nat → Value} {pre : List (Nat × jZr)} {post : List Po}
end
theorem jA2 {f : FuncId} {args C : List jJd} {pre : List (Nat × jZr)} {post : List Po} {res : jJd} {xs : List Operand} {gs : List Nat} {K : List (Nat × jZr)} {U : Upd}
  (hc : jT4 P f (args ++ C) pre post none res) (hE : jCe P N o xs f C) (hd : jVf (res :: args) = true) (hchk : (jTw pre gs && !(match o.dst with | some d => has gs d | none => false)) = true)
  (hargs : jKw N args xs) (hkey : jUs N xs pre post gs) (hK : qUn pre gs = K) (hU : qJu gs post ++ qY3 none o.dst = U) : jXh P o N K jJd.triv U :=
 jXh.out (f := res) (by
  have := jZq hd res List.mem_cons_self
  rw [this]; rfl) (fun _ _ _ _ => trivial) (jCu hc hE hd hchk hargs hkey hK hU)
theorem opdNF : jQf N (.const .nilFunc) (fV Rep.fnum none) := fun _ _ _ => qKq.2 rfl
end Go.KB
namespace Go.KB
variable {P : Program} {o : Oper} {N : List (Nat × jJd)} {α β ρ : Type}
section
variable {κ : Type} {B : Base} {h : H} {L : Nat → Option Ent} {F : κ → Option Ent} {w : World}
end
section
variable {κ : Type} {B : Base} {h0 : H} {Γ : Ctx} {Λ : Own} {F : κ → Option Ent} {n : Nat} {a : Act} {w : World}
end
end Go.KB
namespace Go.KB
variable {P : Program} {o : Oper} {N : List (Nat × jJd)} {α β : Type}
end Go.KB
namespace Go.KB
variable {P : Program} {o : Oper} {N : List (Nat × jJd)} {α β ρ : Type}
section
variable {κ : Type} {B : Base} {h0 : H} {Γ : Ctx} {Λ : Own} {F : κ → Option Ent} {n : Nat} {a : Act} {w : World}
end
theorem jR1 {T E : TypeId} {r : Rep β} {n d : Nat} {parts : Array (Nat × Operand)} {ys : List β} (t : jYk P E r) (hT : P.underlying T = some (.slice E)) (hsz : Nat.ble (n * r.sz) (2 ^ 24) = true) (hd : o.dst = some d) (ho : o.op = .buildSlice T n parts)
  (k : jLz P N (fun i => some (i * r.sz, r.sz)) (r.arr n) parts.toList (List.replicate n r.zero) ys) : jXh P o N [] jJd.triv [(d, some (jQ5 E r ys))] := by
 intro κ B F L h a w hst hn _ hdn next Q hnext _
 obtain ⟨cs, hr, hl, hrun⟩ := run_buildSlice w t hT (Nat.le_of_ble_eq_true hsz) k hn
 unfold Oper.wpK
 have : (execOp a.eval o).run P w = .ok (.value (.slice (some ⟨w.heap.size, 0, none⟩) n n)) (w.alloc (.cells cs.toArray E)) := by
  simp only [execOp, ho, Sem.run_bind, hrun, Result.andThen_ok, Sem.run_pure]
 rw [this]
 refine hnext _ h _ (set1 L d (jV0 w.heap.size E r ys n)) (Hle.refl h) trivial (hst.own_new _ d _ (by intro c hc; simp [jV0] at hc; rw [hc]) ⟨cs, [], by rw [List.append_nil]; exact jHw _ _, hr, by rw [List.append_nil, hr.len, hl]⟩) ?_
 rw [hd]
 exact jVg (.inr ⟨_, n, by rw [jQc (hdn d hd), hl], by rw [hl]; exact Nat.le_refl _, rfl⟩)
end Go.KB
namespace Go.KB
variable {P : Program} {α β : Type}
section
variable {ρ : Option Nat} {κ : Type} {B : Base} {h0 : H} {Γ : Ctx} {Λ : Own} {F : κ → Option Ent} {n : Nat} {a : Act} {w : World} {vM : Nat → Value} {pre : List (Nat × jZr)} {post : List Po}
end
end Go.KB
