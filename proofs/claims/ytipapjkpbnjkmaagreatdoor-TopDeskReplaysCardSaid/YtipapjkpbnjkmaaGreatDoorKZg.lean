/- Rows of rows: each row within is owned, or only read from now on, or somebody else's for a while. No condition. -/
import Derived.Test.YtipapjkpbnjkmaaGreatDoorKZf
namespace Go.KB
set_option linter.unusedVariables false
variable {P : Program} {o : Oper} {N : List (Nat × jJa)} {α β : Type}
inductive RowS (α : Type) where
 | own (xs : List α)
 | fz (xs : List α)
 | gone
def qVh (p : α → β → Prop) : List α → List β → Prop
 | [], [] => True
 | x :: xs, y :: ys => p x y ∧ qVh p xs ys
 | _, _ => False
theorem qVh.len {p : α → β → Prop} : ∀ {xs : List α} {ys : List β}, qVh p xs ys → xs.length = ys.length := by
 intro xs
 induction xs with
 | nil => intro ys h; cases ys with
  | nil => rfl
  | cons _ _ => exact h.elim
 | cons x xs ih => intro ys h; cases ys with
  | nil => exact h.elim
  | cons y ys => simp [ih h.2]
theorem qVh.imp {p q : α → β → Prop} (hpq : ∀ x y, p x y → q x y) : ∀ {xs : List α} {ys : List β}, qVh p xs ys → qVh q xs ys := by
 intro xs
 induction xs with
 | nil => intro ys h; cases ys with
  | nil => trivial
  | cons _ _ => exact h.elim
 | cons x xs ih => intro ys h; cases ys with
  | nil => exact h.elim
  | cons y ys => exact ⟨hpq _ _ h.1, ih h.2⟩
theorem qVh.get {p : α → β → Prop} : ∀ {xs : List α} {ys : List β} {i : Nat} {x : α}, qVh p xs ys → xs[i]? = some x →
  ∃ y1 y y2, ys = y1 ++ y :: y2 ∧ y1.length = i ∧ p x y ∧ ∀ (q : α → β → Prop), (∀ x y, p x y → q x y) → ∀ x' y', q x' y' → qVh q (xs.set i x') (y1 ++ y' :: y2) := by
 intro xs
 induction xs with
 | nil => intro ys i x _ h; simp at h
 | cons x0 xs ih =>
  intro ys i x h hx
  cases ys with
  | nil => exact h.elim
  | cons y0 ys =>
   cases i with
   | zero => simp at hx; subst hx; exact ⟨[], y0, ys, rfl, rfl, h.1, fun q hq x' y' k => ⟨k, qVh.imp hq h.2⟩⟩
   | succ i =>
    obtain ⟨y1, y, y2, rfl, hl, hp, hs⟩ := ih h.2 (by simpa using hx)
    exact ⟨y0 :: y1, y, y2, rfl, by simp [hl], hp, fun q hq x' y' k => ⟨hq _ _ h.1, hs q hq x' y' k⟩⟩
def rowOk (E : TypeId) (r : Rep α) (h : H) : RowS α → Value × Ent → Prop
 | .own xs, u => jW8 E r xs u.1 u.2
 | .fz xs, u => u.2 = jBp ∧ jH8 r h u.1 xs
 | .gone, u => u.2 = jBp ∧ u.1.oneCell' = true
theorem rowOk.mono {E : TypeId} {r : Rep α} {h h' : H} (hl : Hle h h') : ∀ (x : RowS α) (u : Value × Ent), rowOk E r h x u → rowOk E r h' x u
 | .own _, _, k => k
 | .fz _, _, k => ⟨k.1, k.2.mono hl⟩
 | .gone, _, k => k
theorem rowOk.flat {E : TypeId} {r : Rep α} {h : H} : ∀ {x : RowS α} {u : Value × Ent}, rowOk E r h x u → u.1.oneCell' = true
 | .own _, u, k => by
  rcases k with ⟨⟨base, e⟩, _⟩ | ⟨b, cap, e, _⟩ <;> rw [e] <;> rfl
 | .fz _, u, k => by
  rcases k.2 with ⟨⟨base, e⟩, _⟩ | ⟨b, off, cap, e, _⟩ <;> rw [e] <;> rfl
 | .gone, _, k => k.2
def ABox (b : Nat) (us : List (Value × Ent)) : Prop := (us.map (fun u => u.2.claims)).Pairwise qQt ∧ ∀ u ∈ us, ∀ c ∈ u.2.claims, c.1 ≠ b
theorem qQt.symm {a b : List (Nat × Nat)} (h : qQt a b) : qQt b a := fun c hc c' hc' => (h c' hc' c hc).symm
theorem ABox.mid {b : Nat} {us1 us2 : List (Value × Ent)} {u : Value × Ent} (h : ABox b (us1 ++ u :: us2)) : (∀ c ∈ u.2.claims, c.1 ≠ b) ∧ ∀ x ∈ us1 ++ us2, qQt u.2.claims x.2.claims := by
 obtain ⟨g1, g2⟩ := h
 rw [List.map_append, List.map_cons, List.pairwise_append, List.pairwise_cons] at g1
 obtain ⟨k1, ⟨k2, k3⟩, k4⟩ := g1
 refine ⟨fun c hc => g2 u (by simp) c hc, fun x hx => ?_⟩
 rcases List.mem_append.1 hx with hx | hx
 ·exact (k4 _ (List.mem_map.2 ⟨x, hx, rfl⟩) _ List.mem_cons_self).symm
 ·exact k2 _ (List.mem_map.2 ⟨x, hx, rfl⟩)
theorem ABox.put {b : Nat} {us1 us2 : List (Value × Ent)} {u u' : Value × Ent} (h : ABox b (us1 ++ u :: us2)) (h1 : ∀ c ∈ u'.2.claims, c.1 ≠ b) (h2 : ∀ x ∈ us1 ++ us2, qQt u'.2.claims x.2.claims) : ABox b (us1 ++ u' :: us2) := by
 obtain ⟨g1, g2⟩ := h
 rw [List.map_append, List.map_cons, List.pairwise_append, List.pairwise_cons] at g1
 obtain ⟨k1, ⟨k2, k3⟩, k4⟩ := g1
 constructor
 ·rw [List.map_append, List.map_cons, List.pairwise_append, List.pairwise_cons]
  refine ⟨k1, ⟨fun l hl => ?_, k3⟩, fun x hx y hy => ?_⟩
  ·obtain ⟨z, hz, rfl⟩ := List.mem_map.1 hl
   exact h2 z (List.mem_append_right _ hz)
  ·rcases List.mem_cons.1 hy with rfl | hy
   ·obtain ⟨z, hz, rfl⟩ := List.mem_map.1 hx
    exact (h2 z (List.mem_append_left _ hz)).symm
   ·exact k4 x hx y (List.mem_cons_of_mem _ hy)
 ·intro z hz c hc
  rcases List.mem_append.1 hz with hz | hz
  ·exact g2 z (List.mem_append_left _ hz) c hc
  ·rcases List.mem_cons.1 hz with rfl | hz
   ·exact h1 c hc
   ·exact g2 z (List.mem_append_right _ (List.mem_cons_of_mem _ hz)) c hc
def ElW (N : List (Nat × jJa)) (x : Operand) (W : Wr) (s off : Nat) : Prop := ∀ h a, jPu N h a → ∃ b len cap, W.v a s = .slice (some ⟨b, 0, none⟩) len cap ∧ a.eval x = .pointer (some ⟨b, off, none⟩)
theorem ElW.slot {x : Operand} {s off : Nat} (hx : jJ9 N x (fEl s off)) : ElW N x .slot s off := fun h a n => hx h a n
theorem ElW.val {x : Operand} {s off : Nat} {sv : Value} (hx : jJ9 N x (fElV sv off)) : ElW N x (.val sv) s off := fun h a n => hx h a n
section
variable {κ : Type} {B : Base} {h0 : H} {Γ : Ctx} {Λ : Own} {F : κ → Option Ent} {n : Nat} {a : Act} {w : World}
end
theorem qZp {c : Value} (ho : o.op = .assign (.const c)) : jXg P o N [] jJa.triv [] := by
 intro κ B F L h a w hst hn hk _ next Q hnext _
 unfold Oper.wpK
 have : (execOp a.eval o).run P w = .ok (.value c) w := by simp [execOp, ho]; rfl
 rw [this]
 exact hnext _ h w L (Hle.refl h) trivial hst jYb
section
variable {κ : Type} {B : Base} {h0 : H} {Γ : Ctx} {Λ : Own} {F : κ → Option Ent} {n : Nat} {a : Act} {w : World}
end
end Go.KB
