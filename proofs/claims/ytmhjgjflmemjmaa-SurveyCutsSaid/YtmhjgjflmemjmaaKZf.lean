/- Raw cells, variables that hold maps, variables that are captured or that go to keys that are no slots. Functions as numbers, slices of which nil is known, regions in parts, objects that are handed back. Variables of which several fields are rows or maps that are owned. clear of the end of a row that is owned. Struct values of which several fields are rows that are owned: variables, arguments, results. maps.Clone: a copy of a map that is owned. No condition. -/
import Derived.Test.YtmhjgjflmemjmaaKZe
import Derived.Lib.LazyBuf
namespace Go.KB
variable {P : Program} {o : Oper} {N : List (Nat × Fact)} {α β : Type}
section
variable {κ : Type} {B : Base} {h0 : H} {Γ : Ctx} {Λ : Own} {F : κ → Option Ent} {n : Nat} {a : Act} {w : World}
end
end Go.KB
namespace Go.KB
variable {P : Program} {o : Oper} {N : List (Nat × Fact)} {α β : Type}
def PostW : List (Nat × OwnP) → List Po → List Po → Prop
 | (_, q0) :: r, p :: ps, p' :: ps' => (p' = p ∨ (p = .keep ∧ p' = .to q0)) ∧ PostW r ps ps'
 | [], [], [] => True
 | _, _, _ => False
theorem PostW.ok {E : Nat → Option Ent} {g : Nat → Value} : ∀ {pre : List (Nat × OwnP)} {ps ps' : List Po}, PostW pre ps ps' → PostOk pre ps E g → PostOk pre ps' E g := by
 intro pre
 induction pre with
 | nil => intro ps ps' h _; cases ps <;> cases ps' <;> first | trivial | exact h.elim
 | cons x r ih =>
  obtain ⟨k, q0⟩ := x
  intro ps ps' h hp
  cases ps with
  | nil => exact h.elim
  | cons p ps => cases ps' with
   | nil => exact h.elim
   | cons p' ps' =>
    obtain ⟨h1, h2⟩ := h
    refine ⟨?_, ih h2 hp.2⟩
    rcases h1 with rfl | ⟨rfl, rfl⟩
    ·exact hp.1
    ·exact hp.1
theorem FnOkG.post {f : FuncId} {args : List Fact} {pre : List (Nat × OwnP)} {ps ps' : List Po} {own : Option OwnP} {res : Fact} (h : FnOkG P f args pre ps own res) (hw : PostW pre ps ps') : FnOkG P f args pre ps' own res := by
 intro κ B L h0 w vs E hst hl hpre hargs
 exact (h κ B L h0 w vs E hst hl hpre hargs).mono fun e w' ⟨u, h', E', a, b, c, d, x, y⟩ => ⟨u, h', E', a, b, c, hw.ok d, x, y⟩
section
variable {ρ : Option Nat} {κ : Type} {B : Base} {h0 : H} {Γ : Ctx} {Λ : Own} {F : κ → Option Ent} {n : Nat} {ops : Array Oper} {a : Act} {w : World} {Q : Exit → Act → World → Prop}
end
section
variable {κ : Type} {B : Base} {h0 : H} {Γ : Ctx} {Λ : Own} {F : κ → Option Ent} {n : Nat} {a : Act} {w : World} {vM : Nat → Value} {pre : List (Nat × OwnP)} {post : List Po}
end
end Go.KB
namespace Go.KB
variable {P : Program} {o : Oper} {N : List (Nat × Fact)} {α β ρ : Type}
section
variable {κ : Type} {B : Base} {h : H} {L : Nat → Option Ent} {F : κ → Option Ent} {w : World}
end
section
variable {κ : Type} {B : Base} {h0 : H} {Γ : Ctx} {Λ : Own} {F : κ → Option Ent} {n : Nat} {a : Act} {w : World}
end
end Go.KB
namespace Go.KB
variable {P : Program} {o : Oper} {N : List (Nat × Fact)} {α β : Type}
theorem opdF {P : Program} {N : List (Nat × Fact)} {ι : Type} {A : ι → List Fact} {R : ι → Fact} {f : FuncId} {fn : Func} (hc : ∀ i, FnOk P f (A i) (R i)) (hf : P.funcs[f]? = some fn) (hb : isBody fn = true) : OpdOk N (.func f) (fF P A R) :=
 fun h a _ => ⟨f, fn, #[], rfl, hf, hb, fun i κ B L h' w' vs hl hst hvl hvs => by simpa using hc i κ B L h' w' vs hst hvl hvs⟩
theorem opdF2 {P : Program} {N : List (Nat × Fact)} {α β γ : Type} {r : Rep α} {s : Rep γ} {q : Rep β} {φ : α → γ → Option β} {f : FuncId} {fn : Func} (hc : ∀ x y z, φ x y = some z → FnOk P f [fV r x, fV s y] (fV q z)) (hf : P.funcs[f]? = some fn) (hb : isBody fn = true) : OpdOk N (.func f) (fF2 P r s q φ) := opdF (fun i => hc _ _ _ i.2) hf hb
end Go.KB
namespace Go.KB
variable {P : Program} {o : Oper} {N : List (Nat × Fact)} {α β ρ : Type}
section
variable {κ : Type} {B : Base} {h0 : H} {Γ : Ctx} {Λ : Own} {F : κ → Option Ent} {n : Nat} {a : Act} {w : World}
end
theorem opdNilRaw : OpdOk N (.const (.slice none 0 0)) (fV Rep.raw nilV) := fun _ _ _ => ⟨[nilV], ⟨rfl, rfl⟩, rfl⟩
theorem ok_buildArr {T E : TypeId} {r : Rep β} {n d : Nat} {parts : Array (Nat × Operand)} {ys : List β} (t : TyOk P E r) (hT : P.underlying T = some (.slice E)) (hsz : Nat.ble (n * r.sz) (2 ^ 24) = true) (hd : o.dst = some d) (ho : o.op = .buildSlice T n parts)
  (k : FillOk P N (fun i => some (i * r.sz, r.sz)) (r.arr n) parts.toList (List.replicate n r.zero) ys) : OpOk P o N [] Fact.triv [(d, some (arrE E r ys))] := by
 intro κ B F L h a w hst hn _ hdn next Q hnext _
 obtain ⟨cs, hr, hl, hrun⟩ := run_buildSlice w t hT (Nat.le_of_ble_eq_true hsz) k hn
 unfold Oper.wpK
 have : (execOp a.eval o).run P w = .ok (.value (.slice (some ⟨w.heap.size, 0, none⟩) n n)) (w.alloc (.cells cs.toArray E)) := by
  simp only [execOp, ho, Sem.run_bind, hrun, Result.andThen_ok, Sem.run_pure]
 rw [this]
 refine hnext _ h _ (set1 L d (arrEnt w.heap.size E r ys n)) (Hle.refl h) trivial (hst.own_new _ d _ (by intro c hc; simp [arrEnt] at hc; rw [hc]) ⟨cs, [], by rw [List.append_nil]; exact mem_new _ _, hr, by rw [List.append_nil, hr.len, hl]⟩) ?_
 rw [hd]
 exact upd_set1 (.inr ⟨_, n, by rw [gt_put_same (hdn d hd), hl], by rw [hl]; exact Nat.le_refl _, rfl⟩)
end Go.KB
namespace Go.KB
variable {P : Program} {α β : Type}
section
variable {ρ : Option Nat} {κ : Type} {B : Base} {h0 : H} {Γ : Ctx} {Λ : Own} {F : κ → Option Ent} {n : Nat} {a : Act} {w : World} {vM : Nat → Value} {pre : List (Nat × OwnP)} {post : List Po}
end
end Go.KB
