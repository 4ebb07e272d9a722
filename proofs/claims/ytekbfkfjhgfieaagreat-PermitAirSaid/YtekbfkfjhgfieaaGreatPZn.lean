/- Plain laws of chapter 7: what stays true in an office. Plain laws of chapter 7: the program's office settles. Plain laws of chapter 7: which permits exclude each other; the new office. No condition. -/
import Derived.Test.YtekbfkfjhgfieaaGreatPZm
namespace Go.KB
set_option linter.unusedVariables false
theorem bifD {α : Type} {q : Prop} [Decidable q] {a b : α} : (bif decide q then a else b) = if q then a else b := by
 by_cases h : q
 ·rw [dT h, if_pos h]; rfl
 ·rw [dF h, if_neg h]; rfl
structure WA (p : GPermitPlan) (d : List GEvent) (A : AO) : Prop where
 st : ∀ s, 0 ≤ stA A s ∧ stA A s ≤ 6
 fr : ∀ x ∈ p.Permits, stA A x.Name = 2 → x.From ≤ A.now
 ex : ∀ x ∈ p.Permits, ∀ y ∈ p.Permits, stA A x.Name = 2 → stA A y.Name = 2 → jBv p x y = false
 tm : 0 ≤ A.now ∧ A.now ≤ 1000000
 to : ∀ x ∈ p.Permits, (A.es x.Name).to_ = x.To ∨ ∃ v ∈ d, v.Op = 11 ∧ v.Name = x.Name ∧ v.To = (A.es x.Name).to_
 pp : A.pp.Pairwise (fun a b => a.1 < b.1)
 tt : ∀ s t, A.ts s = some t → 0 ≤ t.at_ ∧ t.at_ ≤ 1000000
 pl : A.pp.length ≤ d.length
structure qZ1 (p : GPermitPlan) (A : AO) : Prop where
 w : WA p A.done A
 un : ∀ x ∈ p.Permits, stA A x.Name = 2 → jN4 p A x = false
 li : ∀ x ∈ p.Permits, stA A x.Name ≤ 3 → A.now < (A.es x.Name).to_
theorem WA.le {p : GPermitPlan} {d : List GEvent} {A A' : AO} (h : WA p d A) (hs : ∀ s, stA A' s = stA A s ∨ (0 ≤ stA A' s ∧ stA A' s ≤ 6 ∧ stA A' s ≠ 2)) (ht : ∀ s, (A'.es s).to_ = (A.es s).to_) (hn : A.now ≤ A'.now ∧ A'.now ≤ 1000000) (hp : A'.pp.Pairwise (fun a b => a.1 < b.1)) (hq : ∀ s t, A'.ts s = some t → A.ts s = some t ∨ (0 ≤ t.at_ ∧ t.at_ ≤ 1000000)) (hl : A'.pp.length ≤ d.length) : WA p d A' := by
 have h2 : ∀ s, stA A' s = 2 → stA A s = 2 := fun s e => by
  rcases hs s with h1 | h1
  ·rw [← h1]; exact e
  ·exact absurd e h1.2.2
 have htm := h.tm
 refine ⟨fun s => ?_, fun x hx e => ?_, fun x hx y hy e f => h.ex x hx y hy (h2 _ e) (h2 _ f), ⟨by omega, hn.2⟩, fun x hx => ?_, hp, fun s t e => (hq s t e).elim (h.tt s t) id, hl⟩
 ·rcases hs s with h1 | h1
  ·rw [h1]; exact h.st s
  ·exact ⟨h1.1, h1.2.1⟩
 ·have := h.fr x hx (h2 _ e); omega
 ·rw [ht]; exact h.to x hx
theorem WA.mono {p : GPermitPlan} {d d' : List GEvent} {A : AO} (h : WA p d A) (hd : ∀ v ∈ d, v ∈ d') (hl : d.length ≤ d'.length) : WA p d' A :=
 ⟨h.st, h.fr, h.ex, h.tm, fun x hx => (h.to x hx).imp id fun ⟨v, hv, e⟩ => ⟨v, hd v hv, e⟩, h.pp, h.tt, by have := h.pl; omega⟩
theorem WA.snoc {p : GPermitPlan} {d : List GEvent} {A : AO} {x : GEvent} (h : WA p d A) : WA p (d ++ [x]) A := h.mono (fun v hv => List.mem_append_left _ hv) (by simp)
theorem up_es {A : AO} {n s : Str} {e : jJj} : (upA A n e).es s = if s = n then e else A.es s := bifD
theorem qXf {A : AO} {n s : Str} {e : jJj} : stA (upA A n e) s = if s = n then e.state else stA A s := by
 unfold stA; rw [up_es]; split <;> rfl
theorem WA.up {p : GPermitPlan} {d : List GEvent} {A : AO} {n : Str} {e : jJj} (h : WA p d A) (he : 0 ≤ e.state ∧ e.state ≤ 6) (h2 : e.state = 2 → ∀ x ∈ p.Permits, x.Name = n → x.From ≤ A.now ∧ ∀ y ∈ p.Permits, stA A y.Name = 2 → jBv p x y = false) (ht : e.to_ = (A.es n).to_ ∨ ∃ v ∈ d, v.Op = 11 ∧ v.Name = n ∧ v.To = e.to_) : WA p d (upA A n e) := by
 refine ⟨fun s => ?_, fun x hx => ?_, fun x hx y hy => ?_, h.tm, fun x hx => ?_, h.pp, h.tt, h.pl⟩
 ·rw [qXf]; split
  ·exact he
  ·exact h.st s
 ·rw [qXf]; split
  ·rename_i hn; intro e2; exact (h2 e2 x hx hn).1
  ·intro e2; exact h.fr x hx e2
 ·rw [qXf, qXf]
  split
  ·rename_i hn
   split
   ·rename_i hm; intro _ _; unfold jBv; rw [dT (hn.trans hm.symm)]; rfl
   ·intro e2 f2; exact (h2 e2 x hx hn).2 y hy f2
  ·split
   ·rename_i hm; intro e2 f2; rw [jNm]; exact (h2 f2 y hy hm).2 x hx e2
   ·exact h.ex x hx y hy
 ·rw [up_es]
  split
  ·rename_i hn
   rcases ht with ht | ⟨v, hv, a, b, c⟩
   ·rw [ht, ← hn]; exact h.to x hx
   ·exact .inr ⟨v, hv, a, b.trans hn.symm, c⟩
  ·exact h.to x hx
theorem qVx {p : GPermitPlan} {A : AO} {s : Str} : stA (jT1 p A) s = stA A s ∨ (stA (jT1 p A) s = 6 ∧ stA A s ≤ 3 ∧ (A.es s).to_ ≤ A.now) := by
 unfold stA jT1 qZ6
 simp only []
 cases jUm p s with
 | false => exact .inl rfl
 | true =>
  rw [cond_true]
  by_cases h : (A.es s).state ≤ 3
  ·rw [dT h]
   by_cases h1 : (A.es s).to_ ≤ A.now
   ·rw [dT h1]; exact .inr ⟨rfl, h, h1⟩
   ·rw [dF h1]; exact .inl rfl
  ·rw [dF h]; exact .inl rfl
theorem exp_to {p : GPermitPlan} {A : AO} {s : Str} : ((jT1 p A).es s).to_ = (A.es s).to_ := by
 unfold jT1 qZ6
 simp only []
 cases jUm p s with
 | false => rfl
 | true => rw [cond_true]; cases (decide ((A.es s).state ≤ 3) && decide ((A.es s).to_ ≤ A.now)) <;> rfl
theorem exp_li {p : GPermitPlan} {A : AO} {s : Str} (hs : jUm p s = true) (h : stA (jT1 p A) s ≤ 3) : A.now < (A.es s).to_ := by
 unfold stA jT1 qZ6 at h
 simp only [] at h
 rw [hs, cond_true] at h
 by_cases h3 : (A.es s).state ≤ 3
 ·rw [dT h3] at h
  by_cases h1 : (A.es s).to_ ≤ A.now
  ·rw [dT h1] at h; simp at h
  ·omega
 ·rw [dF h3] at h; simp at h; omega
theorem jT0 {p : GPermitPlan} {A : AO} {s : Str} : (stA (jSy p A) s = stA A s ∧ ¬ (jUm p s = true ∧ stA A s = 2 ∧ jN4 p A (atP p s) = true)) ∨ (stA (jSy p A) s = 3 ∧ stA A s = 2 ∧ jN4 p A (atP p s) = true) := by
 have e : stA (jSy p A) s = (bif jUm p s && decide (stA A s = 2) && jN4 p A (atP p s) then ({ A.es s with state := 3 } : jJj) else A.es s).state := rfl
 rw [e]
 cases h1 : jUm p s with
 | false => exact .inl ⟨rfl, fun h => by cases h.1⟩
 | true =>
  by_cases h2 : stA A s = 2
  ·rw [dT h2]
   cases h3 : jN4 p A (atP p s) with
   | false => exact .inl ⟨rfl, fun h => by cases h.2.2⟩
   | true => exact .inr ⟨rfl, h2, rfl⟩
  ·rw [dF h2]; exact .inl ⟨rfl, fun h => h2 h.2.1⟩
theorem sus_to {p : GPermitPlan} {A : AO} {s : Str} : ((jSy p A).es s).to_ = (A.es s).to_ := by
 unfold jSy
 simp only []
 cases (jUm p s && decide (stA A s = 2) && jN4 p A (atP p s)) <;> rfl
theorem jM8 {p : GPermitPlan} {A : AO} {s : Str} : stA (jZd p A) s = stA A s ∨ ((stA (jZd p A) s = 6 ∨ stA (jZd p A) s = 3) ∧ stA A s ≤ 3) := by
 unfold jZd
 rcases jT0 (p := p) (A := jT1 p A) (s := s) with ⟨h1, _⟩ | ⟨h1, h2, _⟩
 ·rw [h1]; rcases qVx (p := p) (A := A) (s := s) with h | h
  ·exact .inl h
  ·exact .inr ⟨.inl h.1, h.2.1⟩
 ·refine .inr ⟨.inr h1, ?_⟩
  rcases qVx (p := p) (A := A) (s := s) with h | h
  ·rw [← h, h2]; decide
  ·exact h.2.1
theorem jCp {p : GPermitPlan} {A : AO} {s : Str} : ((jZd p A).es s).to_ = (A.es s).to_ := sus_to.trans exp_to
theorem WA.settle {p : GPermitPlan} {d : List GEvent} {A : AO} (h : WA p d A) : WA p d (jZd p A) :=
 h.le (fun s => (jM8 (p := p) (A := A) (s := s)).imp id fun ⟨h1, _⟩ => by rcases h1 with h1 | h1 <;> rw [h1] <;> decide) (fun s => jCp) ⟨Int.le_refl _, h.tm.2⟩ h.pp (fun s t e => .inl e) h.pl
theorem qQf {p : GPermitPlan} (hp : OkP p) {A : AO} {x : jJu} (hx : x ∈ p.Permits) (hk : x.Kind = 5) : jN4 p A x = false := by
 have h1 : jFv p x = [] := by unfold jFv jPz; rw [hk]; rfl
 have h2 : x.Locks = [] := by
  cases hl : x.Locks with
  | nil => rfl
  | cons l r => exact absurd hk (hp.lk x hx l (by rw [hl]; exact List.mem_cons_self)).2.2
 unfold jN4 jR3 qXu
 rw [h1, h2]; rfl
theorem qUz {A : AO} {x : jJu} : (qXu A x).isEmpty = true ↔ ∀ l ∈ x.Locks, stA A l = 2 := by
 unfold qXu
 rw [List.isEmpty_iff, List.filter_eq_nil_iff]
 constructor
 ·intro h l hl; have := h l hl; simpa using this
 ·intro h l hl; rw [h l hl]; decide
theorem jMw {p : GPermitPlan} (hp : OkP p) {A : AO} {x : jJu} (hx : x ∈ p.Permits) (h2 : stA (jZd p A) x.Name = 2) : jN4 p (jZd p A) x = false := by
 unfold jZd at h2 ⊢
 have hh : jUm p x.Name = true := jBq.2 ⟨x, hx, rfl⟩
 rcases jT0 (p := p) (A := jT1 p A) (s := x.Name) with ⟨h, hn⟩ | ⟨h, _⟩
 ·rw [h] at h2
  have hb : jN4 p (jT1 p A) x = false := by
   rw [hp.atP_at hx] at hn
   cases hb : jN4 p (jT1 p A) x with
   | false => rfl
   | true => exact absurd ⟨hh, h2, hb⟩ hn
  unfold jN4 at hb ⊢
  rw [Bool.or_eq_false_iff] at hb ⊢
  refine ⟨hb.1, ?_⟩
  have hb2 := hb.2
  rw [Bool.not_eq_false', qUz] at hb2 ⊢
  intro l hl
  obtain ⟨h5, h6, _⟩ := hp.lk x hx l hl
  rcases jT0 (p := p) (A := jT1 p A) (s := l) with ⟨h7, _⟩ | ⟨_, _, h7⟩
  ·rw [h7]; exact hb2 l hl
  ·rw [qQf hp (jDa h5).1 h6] at h7; cases h7
 ·rw [h] at h2; cases h2
theorem qX9 {p : GPermitPlan} {A : AO} {s : Str} (hs : jUm p s = true) (h : stA (jZd p A) s ≤ 3) : A.now < ((jZd p A).es s).to_ := by
 rw [jCp]
 unfold jZd at h
 refine exp_li hs ?_
 rcases jT0 (p := p) (A := jT1 p A) (s := s) with ⟨h1, _⟩ | ⟨h1, h2, _⟩
 ·rw [h1] at h; exact h
 ·rw [h2]; decide
theorem jLe {p : GPermitPlan} (hp : OkP p) {d : List GEvent} {A : AO} (h : WA p d A) : qZ1 p { jZd p A with done := d } :=
 ⟨⟨h.settle.st, h.settle.fr, h.settle.ex, h.settle.tm, h.settle.to, h.settle.pp, h.settle.tt, h.settle.pl⟩, fun x hx e => jMw hp (A := A) hx e, fun x hx e => qX9 (A := A) (jBq.2 ⟨x, hx, rfl⟩) e⟩
theorem qK3 {p : GPermitPlan} {A : AO} {x : jJu} (h : qWf p A x = []) : x.From ≤ A.now ∧ ∀ y ∈ p.Permits, stA A y.Name = 2 → jBv p y x = false := by
 unfold qWf at h
 obtain ⟨h1, h2⟩ := List.append_eq_nil_iff.1 h
 constructor
 ·by_cases hf : A.now < x.From
  ·rw [dT hf] at h1; cases h1
  ·omega
 ·intro y hy e
  rw [List.filter_eq_nil_iff] at h2
  have := h2 (⟨20, jY4 p A (fun y => jBv p y x)⟩ : jJ9) (by simp)
  have h3 : jY4 p A (fun y => jBv p y x) = [] := by simpa using this
  unfold jY4 at h3
  rw [List.map_eq_nil_iff, List.filter_eq_nil_iff] at h3
  have := h3 y hy
  rw [dT e] at this
  simpa using this
theorem qZb {q : Str × Str} {n s : Str} : ∀ {l : List (Str × Str)}, q ∈ qQ8 l n s → q = (n, s) ∨ q ∈ l
 | [], h => by simpa [qQ8] using h
 | a :: r, h => by
  unfold qQ8 at h
  cases hd : decide (a.1 < n) with
  | false => rw [hd, cond_false] at h; simpa using h
  | true =>
   rw [hd, cond_true] at h
   rcases List.mem_cons.1 h with rfl | h
   ·exact .inr List.mem_cons_self
   ·exact (qZb h).imp id fun h => List.mem_cons_of_mem _ h
theorem qWy {n s : Str} : ∀ {l : List (Str × Str)}, (qQ8 l n s).length = l.length + 1
 | [] => rfl
 | a :: r => by
  unfold qQ8
  cases decide (a.1 < n) with
  | true => rw [cond_true, List.length_cons, qWy, List.length_cons]
  | false => rfl
theorem jSq {n s : Str} : ∀ {l : List (Str × Str)}, (l.any fun q => decide (q.1 = n)) = false → l.Pairwise (fun a b => a.1 < b.1) → (qQ8 l n s).Pairwise (fun a b => a.1 < b.1)
  | [], _, _ => by simp [qQ8]
  | a :: r, hn, h => by
    rw [List.any_cons, Bool.or_eq_false_iff, decide_eq_false_iff_not] at hn
    rw [List.pairwise_cons] at h
    unfold qQ8
    cases hd : decide (a.1 < n) with
    | false =>
      rw [cond_false, List.pairwise_cons]
      rw [decide_eq_false_iff_not] at hd
      have hlt : n < a.1 := by
        rcases List.le_iff_lt_or_eq.1 (show n ≤ a.1 from hd) with h1 | h1
        · exact h1
        · exact absurd h1.symm hn.1
      refine ⟨fun q hq => ?_, List.pairwise_cons.2 h⟩
      rcases List.mem_cons.1 hq with rfl | hq
      · exact hlt
      · exact List.lt_trans hlt (h.1 q hq)
    | true =>
      rw [decide_eq_true_eq] at hd
      rw [cond_true, List.pairwise_cons]
      refine ⟨fun q hq => ?_, jSq hn.2 h.2⟩
      rcases qZb hq with rfl | hq
      · exact hd
      · exact h.1 q hq
def StepA (p : GPermitPlan) (A : AO) (x : GEvent) (r : AO × List Str × Int) : Prop :=
 (r.2.2 ≠ 0 → r.1 = A) ∧ (∀ d, WA p d A → WA p (d ++ [x]) r.1) ∧ r.1.now = A.now ∧ r.1.done = A.done ∧
 (∀ s, stA A s ≥ 4 → stA r.1 s = stA A s) ∧ (∀ s, stA r.1 s = 2 → stA A s ≠ 2 → (x.Op = 2 ∨ x.Op = 4) ∧ x.Name = s ∧ r.2.2 = 0)
theorem jY9 {p : GPermitPlan} {A : AO} {x : GEvent} {e : Int} {l : List Str} : StepA p A x (jMj A e l) :=
 ⟨fun _ => rfl, fun d h => h.snoc, rfl, rfl, fun _ _ => rfl, fun s h1 h2 => absurd h1 h2⟩
theorem step_up {p : GPermitPlan} {A : AO} {x : GEvent} {n : Str} {e : jJj} (h4 : stA A n ≤ 3) (he : 0 ≤ e.state ∧ e.state ≤ 6) (h2 : ∀ d, WA p d A → e.state = 2 → ∀ x ∈ p.Permits, x.Name = n → x.From ≤ A.now ∧ ∀ y ∈ p.Permits, stA A y.Name = 2 → jBv p x y = false) (ht : e.to_ = (A.es n).to_ ∨ (x.Op = 11 ∧ x.Name = n ∧ x.To = e.to_)) (ho : e.state = 2 → stA A n ≠ 2 → (x.Op = 2 ∨ x.Op = 4) ∧ x.Name = n) : StepA p A x (jTm (upA A n e)) := by
 refine ⟨fun h => absurd rfl h, fun d h => ?_, rfl, rfl, fun s hs => ?_, fun s h1 hne => ?_⟩
 ·exact h.snoc.up he (fun e2 => h2 d h e2) (ht.imp id fun ⟨a, b, c⟩ => ⟨x, List.mem_append_right _ (List.mem_singleton_self _), a, b, c⟩)
 ·show stA (upA A n e) s = _
  rw [qXf]
  split
  ·rename_i h; subst h; omega
  ·rfl
 ·have h1' : stA (upA A n e) s = 2 := h1
  rw [qXf] at h1'
  split at h1'
  ·rename_i h; subst h; exact ⟨(ho h1' hne).1, (ho h1' hne).2, rfl⟩
  ·exact absurd h1' hne
theorem jA1 {p : GPermitPlan} {A : AO} {x : GEvent} {n : Str} {k : Int} (h4 : stA A n ≤ 3) (hk : 0 ≤ k ∧ k ≤ 6) (h2 : k ≠ 2) : StepA p A x (jTm (beA A n k)) :=
 step_up h4 hk (fun d _ e => absurd e h2) (.inl rfl) (fun e => absurd e h2)
theorem jMt {p : GPermitPlan} {A A' : AO} {x : GEvent} (he : A'.es = A.es) (hn : A'.now = A.now) (hd : A'.done = A.done) (hp : A.pp.Pairwise (fun a b => a.1 < b.1) → A'.pp.Pairwise (fun a b => a.1 < b.1)) (hq : 0 ≤ A.now ∧ A.now ≤ 1000000 → ∀ s t, A'.ts s = some t → A.ts s = some t ∨ (0 ≤ t.at_ ∧ t.at_ ≤ 1000000)) (hl : A'.pp.length ≤ A.pp.length + 1) : StepA p A x (jTm A') := by
 have hs : ∀ s, stA A' s = stA A s := fun s => by unfold stA; rw [he]
 refine ⟨fun h => absurd rfl h, fun d h => ?_, hn, hd, fun s _ => hs s, fun s h1 h2 => absurd ((hs s).symm.trans h1) h2⟩
 exact h.snoc.le (fun s => .inl (hs s)) (fun s => by show (A'.es s).to_ = _; rw [he]) ⟨by show A.now ≤ A'.now; omega, by have := h.tm; show A'.now ≤ _; omega⟩ (hp h.pp) (hq h.tm) (by have := h.pl; rw [List.length_append]; simp only [List.length_singleton]; show A'.pp.length ≤ _; omega)
theorem jSa {p : GPermitPlan} (hp : OkP p) {A : AO} {x : GEvent} (ho : x.Op = 2 ∨ x.Op = 4) (h4 : stA A x.Name ≤ 3) (hh : jUm p x.Name = true) : StepA p A x (jN0 p A x) := by
 unfold jN0
 cases jWb x.Person with
 | false => exact jY9
 | true =>
  cases decide (x.Person = (A.es x.Name).by_) with
  | true => exact jY9
  | false =>
   simp only [Bool.not_true, cond_false]
   cases hw : qWf p A (atP p x.Name) with
   | cons r l => exact jY9
   | nil =>
    refine step_up h4 (by simp) (fun d hd _ y hy hn => ?_) (.inl rfl) (fun _ _ => ⟨ho, rfl⟩)
    have hy2 : atP p x.Name = y := by rw [← hn]; exact hp.atP_at hy
    rw [hy2] at hw
    obtain ⟨h1, h2⟩ := qK3 hw
    exact ⟨h1, fun z hz e => by rw [jNm]; exact h2 z hz e⟩
theorem jS2 {p : GPermitPlan} (hp : OkP p) {A : AO} {x : GEvent} (h0 : 0 ≤ x.Op) (h12 : x.Op < 12) : StepA p A x (qWh p A x) := by
  have hop : x.Op = 0 ∨ x.Op = 1 ∨ x.Op = 2 ∨ x.Op = 3 ∨ x.Op = 4 ∨ x.Op = 5 ∨ x.Op = 6 ∨ x.Op = 7 ∨ x.Op = 8 ∨ x.Op = 9 ∨ x.Op = 10 ∨ x.Op = 11 := by omega
  have acts : ∀ {l : List Int} {R : AO × List Str × Int}, (∀ k ∈ l, k ≤ 3) → (jUm p x.Name = true → stA A x.Name ∈ l → stA A x.Name ≤ 3 → StepA p A x R) → StepA p A x (bif !jUm p x.Name then jMj A 6 [] else bif !l.contains (stA A x.Name) then jMj A 18 [] else R) := by
    intro l R hl hR
    cases hh : jUm p x.Name with
    | false => exact jY9
    | true =>
      cases hc : l.contains (stA A x.Name) with
      | false => exact jY9
      | true =>
        have hm : stA A x.Name ∈ l := by simpa using hc
        exact hR hh hm (hl _ hm)
  unfold qWh jMb qZ2
  rcases hop with h | h | h | h | h | h | h | h | h | h | h | h <;> simp only [h, if_true, if_false, Int.reduceEq]
  · exact jMt rfl rfl rfl id (fun _ s t e => .inl e) (Nat.le_succ _)
  · refine acts (by decide) fun hh hm h4 => ?_
    unfold jPd
    cases jWb x.Person with
    | false => exact jY9
    | true => exact step_up h4 (by simp) (fun _ _ e => by cases e) (.inl rfl) (fun e => by cases e)
  · exact acts (by decide) fun hh hm h4 => jSa hp (.inl h) h4 hh
  · exact acts (by decide) fun hh hm h4 => jA1 h4 (by decide) (by decide)
  · exact acts (by decide) fun hh hm h4 => jSa hp (.inr h) h4 hh
  · refine acts (by decide) fun hh hm h4 => ?_
    unfold jNl
    simp only []
    cases (decide ((atP p x.Name).Kind = 5) && !(jY4 p A (fun z => inL z.Locks (atP p x.Name).Name)).isEmpty) with
    | true => exact jY9
    | false =>
      rw [cond_false]
      cases (decide ((atP p x.Name).Kind = 1) && decide (stA A (atP p x.Name).Name = 2) && (atS p (atP p x.Name).Space).Enclosed && (jY4 p A (fun z => decide (z.Kind = 1) && decide (z.Space = (atP p x.Name).Space) && !decide (z.Name = (atP p x.Name).Name))).isEmpty && !(jMd A (fun s => decide (s = (atP p x.Name).Space))).isEmpty) with
      | true => exact jY9
      | false => exact jA1 h4 (by decide) (by decide)
  · exact acts (by decide) fun hh hm h4 => jA1 h4 (by decide) (by decide)
  · unfold gasA
    cases jM3 p x.Space with
    | false => exact jY9
    | true =>
      cases (decide (x.Oxygen < 0) || decide (1000 < x.Oxygen) || decide (x.Gas < 0) || decide (1000 < x.Gas)) with
      | true => exact jY9
      | false =>
        refine jMt rfl rfl rfl id (fun hn s t e => ?_) (Nat.le_succ _)
        simp only [] at e
        cases hd : decide (s = x.Space) with
        | true => rw [hd, cond_true] at e; cases e; exact .inr hn
        | false => rw [hd, cond_false] at e; exact .inl e
  · unfold qQx
    cases jWb x.Person with
    | false => exact jY9
    | true =>
      cases jM3 p x.Space with
      | false => exact jY9
      | true =>
        cases hi : jMr A x.Person with
        | true => exact jY9
        | false =>
          simp only [Bool.not_true, cond_false]
          cases ((atS p x.Space).Enclosed && !jFr p A x.Space) with
          | true => exact jY9
          | false =>
            rw [cond_false]
            cases (!(jY4 p A (fun y => decide (y.Kind = 3) && decide (jUl p y.Space x.Space ≤ 1))).isEmpty) with
            | true => exact jY9
            | false => exact jMt rfl rfl rfl (fun hpp => jSq hi hpp) (fun _ s t e => .inl e) (Nat.le_of_eq qWy)
  · unfold qQh
    cases jWb x.Person with
    | false => exact jY9
    | true =>
      cases jMr A x.Person with
      | false => exact jY9
      | true => exact jMt rfl rfl rfl (fun hpp => hpp.filter _) (fun _ s t e => .inl e) (Nat.le_succ_of_le (List.length_filter_le _ _))
  · unfold qJb
    cases jM3 p x.Space with
    | false => exact jY9
    | true =>
      simp only [Bool.not_true, cond_false]
      have hs : ∀ s, stA { A with es := fun s => bif jUm p s && decide (stA A s = 2) && (!decide ((atP p s).Kind = 5) && decide (jUl p (atP p s).Space x.Space ≤ 1)) then { A.es s with state := 3 } else A.es s } s = stA A s ∨ (stA { A with es := fun s => bif jUm p s && decide (stA A s = 2) && (!decide ((atP p s).Kind = 5) && decide (jUl p (atP p s).Space x.Space ≤ 1)) then { A.es s with state := 3 } else A.es s } s = 3 ∧ stA A s = 2) := by
        intro s
        unfold stA
        simp only []
        cases jUm p s with
        | false => exact .inl rfl
        | true =>
          by_cases h2 : (A.es s).state = 2
          · rw [dT h2]
            cases (!decide ((atP p s).Kind = 5) && decide (jUl p (atP p s).Space x.Space ≤ 1)) with
            | false => exact .inl rfl
            | true => exact .inr ⟨rfl, h2⟩
          · rw [dF h2]; exact .inl rfl
      refine ⟨fun h => absurd rfl h, fun d hd => ?_, rfl, rfl, fun s h4 => ?_, fun s h1 h2 => ?_⟩
      · refine hd.snoc.le (fun s => (hs s).imp id fun h => by show _ ∧ _ ∧ _; rw [show stA (jTm _).1 s = 3 from h.1]; decide) (fun s => ?_) ⟨Int.le_refl _, hd.tm.2⟩ hd.pp (fun s t e => .inl e) hd.snoc.pl
        show (bif _ then ({ A.es s with state := 3 } : jJj) else A.es s).to_ = _
        cases (jUm p s && decide (stA A s = 2) && (!decide ((atP p s).Kind = 5) && decide (jUl p (atP p s).Space x.Space ≤ 1))) <;> rfl
      · rcases hs s with h | h
        · exact h
        · omega
      · rcases hs s with h | h
        · exact absurd (h.symm.trans h1) h2
        · exact absurd h.2 h2
  · refine acts (by decide) fun hh hm h4 => ?_
    unfold jTx
    cases jWb x.Person with
    | false => exact jY9
    | true =>
      cases (decide (x.To ≤ (A.es x.Name).to_) || decide (1000000 < x.To)) with
      | true => exact jY9
      | false =>
        have hm' : stA A x.Name = 1 ∨ stA A x.Name = 2 ∨ stA A x.Name = 3 := by simpa using hm
        refine step_up h4 ⟨?_, ?_⟩ (fun d hd e y hy hn => ?_) (.inr ⟨h, rfl, rfl⟩) (fun e hne => absurd e hne)
        · show 0 ≤ stA A x.Name; omega
        · show stA A x.Name ≤ 6; omega
        · have e' : stA A x.Name = 2 := e
          rw [← hn] at e'
          exact ⟨hd.fr y hy e', fun z hz e2 => hd.ex y hy z hz e' e2⟩
theorem inv_do {p : GPermitPlan} (hp : OkP p) {A : AO} {x : GEvent} (h : qZ1 p A) : qZ1 p (doA p A x).1 ∧ A.now ≤ (doA p A x).1.now ∧ (∀ s, stA A s ≥ 4 → stA (doA p A x).1 s = stA A s) ∧ (∀ s, stA (doA p A x).1 s = 2 → stA A s ≠ 2 → (x.Op = 2 ∨ x.Op = 4) ∧ x.Name = s ∧ (doA p A x).2.2 = 0) := by
  unfold doA
  by_cases hr : x.Op < 0 ∨ 12 ≤ x.Op ∨ x.At < 0 ∨ 1000000 < x.At
  · have hr' : (decide (x.Op < 0) || decide (12 ≤ x.Op) || decide (x.At < 0) || decide (1000000 < x.At)) = true := by simpa [or_assoc] using hr
    rw [hr']
    exact ⟨h, Int.le_refl _, fun _ _ => rfl, fun s h1 h2 => absurd h1 h2⟩
  · have hr' : (decide (x.Op < 0) || decide (12 ≤ x.Op) || decide (x.At < 0) || decide (1000000 < x.At)) = false := by simp; omega
    rw [hr', cond_false]
    by_cases ho : x.At < A.now
    · rw [dT ho]; exact ⟨h, Int.le_refl _, fun _ _ => rfl, fun s h1 h2 => absurd h1 h2⟩
    rw [dF ho, cond_false]
    have hw : WA p A.done { A with now := x.At } := h.w.le (fun s => .inl rfl) (fun _ => rfl) ⟨by show A.now ≤ x.At; omega, by show x.At ≤ 1000000; omega⟩ h.w.pp (fun s t e => .inl e) h.w.pl
    have hi := jLe hp hw
    have hset : ∀ s, stA (jZd p { A with now := x.At }) s = stA A s ∨ ((stA (jZd p { A with now := x.At }) s = 6 ∨ stA (jZd p { A with now := x.At }) s = 3) ∧ stA A s ≤ 3) := fun s => jM8 (p := p) (A := { A with now := x.At }) (s := s)
    obtain ⟨s1, s2, s3, s4, s5, s6⟩ := jS2 hp (A := jZd p { A with now := x.At }) (x := x) (by omega) (by omega)
    generalize hR : qWh p (jZd p { A with now := x.At }) x = R at s1 s2 s3 s4 s5 s6
    simp only []
    by_cases h0 : R.2.2 = 0
    · rw [dT h0, cond_true]
      have hw2 := s2 _ hi.w
      refine ⟨jLe hp (d := A.done ++ [x]) hw2, ?_, fun s hs => ?_, fun s h1 h2 => ?_⟩
      · show A.now ≤ R.1.now
        rw [s3]; show A.now ≤ x.At; omega
      · show stA (jZd p R.1) s = stA A s
        have e1 : stA (jZd p { A with now := x.At }) s = stA A s := by
          rcases hset s with e | ⟨_, e⟩
          · exact e
          · omega
        have e2 := s5 s (by omega)
        rcases jM8 (p := p) (A := R.1) (s := s) with e | ⟨_, e⟩ <;> omega
      · have h1' : stA (jZd p R.1) s = 2 := h1
        have e2 : stA R.1 s = 2 := by
          rcases jM8 (p := p) (A := R.1) (s := s) with e | ⟨e, _⟩ <;> omega
        have e3 : stA (jZd p { A with now := x.At }) s ≠ 2 := by
          rcases hset s with e | ⟨e, _⟩ <;> omega
        obtain ⟨a, b, c⟩ := s6 s e2 e3
        exact ⟨a, b, rfl⟩
    · rw [dF h0, cond_false]
      have hB := s1 h0
      rw [hB]
      refine ⟨hi, ?_, fun s hs => ?_, fun s h1 h2 => ?_⟩
      · show A.now ≤ x.At; omega
      · rcases hset s with e | ⟨_, e⟩
        · exact e
        · omega
      · exfalso
        rcases hset s with e | ⟨e, _⟩ <;> omega
theorem qUk {p : GPermitPlan} (hp : OkP p) : qZ1 p (newA p) := by
 refine jLe hp (d := []) (A := ⟨0, fun s => bif jUm p s then ⟨0, [], (atP p s).To⟩ else ⟨0, [], 0⟩, fun _ => none, [], []⟩) ⟨fun s => ?_, fun x hx e => ?_, fun x hx y hy e => ?_, (by simp), fun x hx => ?_, List.Pairwise.nil, (fun s t e => by cases e), Nat.le_refl _⟩
 ·unfold stA; simp only []; cases jUm p s <;> simp
 ·exfalso; unfold stA at e; simp only [] at e; cases hh : jUm p x.Name <;> rw [hh] at e <;> cases e
 ·exfalso; unfold stA at e; simp only [] at e; cases hh : jUm p x.Name <;> rw [hh] at e <;> cases e
 ·refine .inl ?_
  simp only []
  rw [jBq.2 ⟨x, hx, rfl⟩, cond_true, hp.atP_at hx]
end Go.KB
namespace Go.KB
set_option linter.unusedVariables false
theorem jM5 {S O : Type} {n N : Nat} {f : S → Option (S ⊕ O)} (I : Nat → S → Prop) (Q : O → Prop) {s0 : S} (h0 : I 0 s0) (h : ∀ i s, i < n → I i s → ∃ s', f s = some (.inl s') ∧ I (i + 1) s') (he : ∀ s, I n s → ∃ o, f s = some (.inr o) ∧ Q o) (hN : n < N) : ∃ o, jXh f N s0 = some o ∧ Q o := by
 have key : ∀ k i s, i + k = n → I i s → ∀ M, k < M → ∃ o, jXh f M s = some o ∧ Q o := by
  intro k
  induction k with
  | zero =>
   intro i s hi hs M hM
   obtain ⟨M, rfl⟩ : ∃ m, M = m + 1 := ⟨M - 1, by omega⟩
   have : i = n := by omega
   subst this
   obtain ⟨o, h1, h2⟩ := he s hs
   exact ⟨o, by simp only [jXh, h1], h2⟩
  | succ k ih =>
   intro i s hi hs M hM
   obtain ⟨M, rfl⟩ : ∃ m, M = m + 1 := ⟨M - 1, by omega⟩
   obtain ⟨s', h1, h2⟩ := h i s (by omega) hs
   simp only [jXh, h1]
   exact ih (i + 1) s' (by omega) h2 M (by omega)
 exact key n 0 s0 (by omega) h0 N (by omega)
theorem jNk {α β : Type} [DecidableEq α] (x k : α) (y : β) : ∀ m : List (α × β), jKs (jHd m x y) k = (decide (k = x) || jKs m k)
 | [] => by simp [jKs, jHd]
 | q :: r => by
  unfold jHd
  by_cases h : x = q.1
  ·rw [dT h, cond_true]; unfold jKs; rw [← h]; cases decide (k = x) <;> simp
  ·rw [dF h, cond_false]; unfold jKs; rw [jNk x k y r]
   cases decide (k = q.1) <;> cases decide (k = x) <;> rfl
structure RSt (p : GPermitPlan) (es : Str → jJj) (st : List (Str × jJj)) : Prop where
 get : ∀ s, jUm p s = true → jZj (⟨0, [], 0⟩ : jJj) st s = es s
 has : ∀ s, jKs st s = jUm p s
theorem RSt.set {p : GPermitPlan} {es : Str → jJj} {st : List (Str × jJj)} (h : RSt p es st) {n : Str} (hn : jUm p n = true) (e : jJj) : RSt p (fun s => bif decide (s = n) then e else es s) (jHd st n e) := by
 refine ⟨fun s hs => ?_, fun s => ?_⟩
 ·rw [jLh]
  by_cases he : s = n
  ·rw [if_pos he, dT he]; rfl
  ·rw [if_neg he, dF he]; exact h.get s hs
 ·rw [jNk, h.has]
  by_cases he : s = n
  ·rw [dT he, he, hn]; rfl
  ·rw [dF he]; rfl
theorem RSt.congr {p : GPermitPlan} {es es' : Str → jJj} {st : List (Str × jJj)} (h : RSt p es st) (he : ∀ s, jUm p s = true → es s = es' s) : RSt p es' st := ⟨fun s hs => by rw [h.get s hs, he s hs], h.has⟩
structure RelB (p : GPermitPlan) (A : AO) (g : jJq) (air : List (Str × jJz)) : Prop where
 plan : g.plan = p
 now : g.now = A.now
 hair : ∀ s, jKs air s = (A.ts s).isSome
 airg : ∀ s t, A.ts s = some t → jZj (⟨0, 0, 0⟩ : jJz) air s = t
structure RelA (p : GPermitPlan) (A : AO) (g : jJq) (st : List (Str × jJj)) (air : List (Str × jJz)) (pe : List (Str × Str)) : Prop where
 b : RelB p A g air
 st : RSt p A.es st
 pe : pe.Perm A.pp
 done : g.done = A.done
structure BdA (A : AO) : Prop where
 tm : 0 ≤ A.now ∧ A.now ≤ 1000000
 st : ∀ s, 0 ≤ stA A s ∧ stA A s ≤ 6
 tt : ∀ s t, A.ts s = some t → 0 ≤ t.at_ ∧ t.at_ ≤ 1000000
 pl : A.pp.length < 1000000
theorem WA.bd {p : GPermitPlan} {d : List GEvent} {A : AO} (h : WA p d A) (hd : d.length < 1000000) : BdA A := ⟨h.tm, h.st, h.tt, Nat.lt_of_le_of_lt h.pl hd⟩
section
variable {N : Nat} {p : GPermitPlan} {A : AO} {g : jJq} {st : List (Str × jJj)} {air : List (Str × jJz)} {pe : List (Str × Str)} (hp : SmP p) (hN : 1000000 ≤ N) (h : RelB p A g air) (b : BdA A)
include hp hN h b
theorem qV1 {s : Str} : jWv N g st air pe s = some (qXw p A s, qXl p A s) := by
 have hs := hp.s
 unfold jWv qXw qXl
 rw [h.plan, jH9 (by omega) hN, bS, h.hair s, h.now]
 show (bif !(atS p s).Enclosed then _ else _) = _
 cases (atS p s).Enclosed with
 | false => rfl
 | true =>
  simp only [Bool.not_true, cond_false]
  cases ht : A.ts s with
  | none => rfl
  | some t =>
   have h1 := b.tt s t ht
   have h2 := b.tm
   rw [h.airg s t ht, w64i (by omega) (by omega)]
   simp only [Option.isSome_some, Bool.true_and, jB9, jDw]
theorem jRx {x : jJu} {s : Str} : jZ9 N g st air pe s x = some (jAw p A x s) := by
 unfold jZ9 jAw
 rw [qV1 hp hN h b, bS, jUt]
 cases decide (x.Kind = 0) <;> rfl
theorem jSl {x : jJu} : jVb N g st air pe x = some (jR3 p A x) := by
 have hl := qJ7 (x := x) hp
 unfold jVb
 rw [h.plan, qQr hp hN, bS]
 have hi : jQt N g st air pe (jFv p x) x = some (ixI (jAw p A x) (jFv p x)) := by
  unfold jQt
  refine jHl (fun i hi => ?_) ?_ (by omega)
  ·unfold jQp
   rw [jQq, dT (by omega), cond_true, jVw hi, bS, jRx hp hN h b, bS, jDb (by omega)]
  ·unfold jQp
   rw [jQq, dF (by omega), cond_false]
 have hd : jQr N g st air pe (jFv p x) x = some (jR3 p A x) := by
  unfold jQr
  rw [hi, bS]
  refine del_eq (g := jAw p A x) (fun xs i j hj hij hj2 hm => ?_) (fun xs i => ?_) (by omega) hN
  ·unfold jQl
   simp only []
   rw [jQq, dT (by omega), cond_true, jVw hj, bS, jRx hp hN h b, bS, jDb (by omega), jDb (by omega), jVw (by omega), bS, Int.toNat_natCast]
  ·unfold jQl
   simp only []
   rw [jQq, dF (by omega), cond_false]
 rw [hd]; rfl
end
theorem jP5 {N : Nat} {p : GPermitPlan} {A : AO} {g : jJq} {st : List (Str × jJj)} {air : List (Str × jJz)} {pe : List (Str × Str)} (hN : 1000000 ≤ N) (hst : RSt p A.es st) {n : Str} {l : List Int} (hn : jUm p n = true) (hl : l.length < 100) : jQd N g st air pe n l = some (l.contains (stA A n)) := by
 unfold jQd
 rw [jS5 (by omega) hN, bS, hst.get n hn]; rfl
theorem jRr {N : Nat} {p : GPermitPlan} {A : AO} {g : jJq} {st : List (Str × jJj)} {air : List (Str × jJz)} {pe : List (Str × Str)} (hp : SmP p) (hN : 1000000 ≤ N) (hst : RSt p A.es st) {x : jJu} (hx : x.Locks.length < 1000) (hlk : ∀ l ∈ x.Locks, jUm p l = true) : jZc N g st air pe x = some (qXu A x) := by
 have hlim : lim ≥ 1000000 := by decide
 unfold jZc
 have hc : jQc N x.Locks = some x.Locks := by
  unfold jQc
  rw [qQ6 (by simp only [List.length_nil]; omega)]; rfl
 rw [hc, bS]
 have h1 : ∀ s, jZg N g st air pe s = some (decide (stA A s = 2)) ∨ ¬ jUm p s = true := by
  intro s
  by_cases hs : jUm p s = true
  ·left
   unfold jZg
   rw [jP5 hN hst hs (by decide), bS]
   congr 1
   rw [Bool.eq_iff_iff]; simp
  ·exact .inr hs
 have h2 : ∀ s ∈ x.Locks, jZg N g st air pe s = some (decide (stA A s = 2)) := fun s hs => (h1 s).elim id fun hn => absurd (hlk s hs) hn
 have hi : jQs N g st air pe x.Locks = some (ixI (fun s => decide (stA A s = 2)) x.Locks) := by
  unfold jQs
  refine jHl (fun i hi => ?_) ?_ (by omega)
  ·unfold jQh
   rw [jQq, dT (by omega), cond_true, jVw hi, bS, h2 _ (List.getElem_mem hi), bS, jDb (by omega)]
  ·unfold jQh
   rw [jQq, dF (by omega), cond_false]
 unfold jQ9
 rw [hi, bS, del_eq (g := fun s => decide (stA A s = 2)) (f := jQk N g st air pe) (fun xs i j hj hij hj2 hm => ?_) (fun xs i => ?_) (by omega) hN]
 ·rfl
 ·unfold jQk
  simp only []
  rw [jQq, dT (by omega), cond_true, jVw hj, bS, h2 _ hm, bS, jDb (by omega), jDb (by omega), jVw (by omega), bS, Int.toNat_natCast]
 ·unfold jQk
  simp only []
  rw [jQq, dF (by omega), cond_false]
def amP (p : GPermitPlan) (i : Nat) (s : Str) : Bool := (p.Permits.take i).any (isP s)
theorem jS1 {p : GPermitPlan} {s : Str} : amP p p.Permits.length s = jUm p s := by unfold amP jUm; rw [List.take_length]
theorem jPl {p : GPermitPlan} {i : Nat} (hi : i < p.Permits.length) {s : Str} : amP p (i + 1) s = (amP p i s || decide (p.Permits[i].Name = s)) := by
 unfold amP; rw [List.take_succ_eq_append_getElem hi, List.any_append]; simp [isP]
theorem qZu {p : GPermitPlan} (ho : OkP p) {i : Nat} (hi : i < p.Permits.length) : amP p i p.Permits[i].Name = false := by
 unfold amP
 rw [Bool.eq_false_iff]
 intro hx
 rw [List.any_eq_true] at hx
 obtain ⟨y, hy, hg⟩ := hx
 obtain ⟨j, hj, rfl⟩ := List.getElem_of_mem hy
 rw [List.length_take] at hj
 rw [List.getElem_take] at hg
 simp only [isP, decide_eq_true_eq] at hg
 have := ho.pd j i (by omega) hi (by rw [jTr (by omega), jTr hi, hg])
 omega
theorem jNt {p : GPermitPlan} {i : Nat} (hi : i < p.Permits.length) : jUm p p.Permits[i].Name = true := jBq.2 ⟨_, List.getElem_mem hi, rfl⟩
theorem qWr {N : Nat} {p : GPermitPlan} {A : AO} {g : jJq} {st : List (Str × jJj)} {air : List (Str × jJz)} {pe : List (Str × Str)} (hp : SmP p) (ho : OkP p) (hN : 1000000 ≤ N) (h : RelB p A g air) (hst : RSt p A.es st) (b : BdA A) : ∃ st', jXh (jZ7 N g air pe) N (0, st) = some st' ∧ RSt p (jT1 p A).es st' := by
 have hm := hp.m
 refine jM5 (n := p.Permits.length) (fun i s => s.1 = (i : Int) ∧ RSt p (fun s => bif amP p i s then qZ6 A.now (A.es s) else A.es s) s.2) _ ⟨rfl, hst.congr fun s _ => by unfold amP; simp⟩ (fun i s hi hs => ?_) (fun s hs => ?_) (by omega)
 ·obtain ⟨s1, st'⟩ := s
  obtain ⟨rfl, hr⟩ := hs
  simp only [] at hr
  have hn := jNt hi
  have he : (bif amP p i p.Permits[i].Name then qZ6 A.now (A.es p.Permits[i].Name) else A.es p.Permits[i].Name) = A.es p.Permits[i].Name := by rw [qZu ho hi]; rfl
  have hg := hr.get _ hn
  rw [he] at hg
  have hst := b.st p.Permits[i].Name
  unfold stA at hst
  have hc : ([0, 1, 2, 3] : List Int).contains (A.es p.Permits[i].Name).state = decide ((A.es p.Permits[i].Name).state ≤ 3) := by
   rw [Bool.eq_iff_iff]; simp; omega
  have hi' : jQd N g st' air pe p.Permits[i].Name [0, 1, 2, 3] = some (decide ((A.es p.Permits[i].Name).state ≤ 3)) := by
   unfold jQd
   rw [jS5 (by decide) hN, bS, hg, hc]
  have hnext : ∀ (e : jJj), e = qZ6 A.now (A.es p.Permits[i].Name) → ∀ s, jUm p s = true → (bif decide (s = p.Permits[i].Name) then e else (bif amP p i s then qZ6 A.now (A.es s) else A.es s)) = (bif amP p (i + 1) s then qZ6 A.now (A.es s) else A.es s) := by
   intro e hee s _
   rw [jPl hi]
   by_cases hs : s = p.Permits[i].Name
   ·subst hs; rw [dT rfl, Bool.or_true, cond_true, cond_true, hee]
   ·rw [dF hs, dF (fun x => hs x.symm), Bool.or_false]; rfl
  unfold jZ7
  simp only []
  rw [h.plan, jQq, dT (by omega), cond_true, jVw hi, bS, hi', bS, hg, jB9, h.now, jDb (by omega)]
  cases hx : (decide ((A.es p.Permits[i].Name).state ≤ 3) && decide ((A.es p.Permits[i].Name).to_ ≤ A.now)) with
  | true =>
   refine ⟨_, rfl, rfl, ?_⟩
   rw [hg]
   exact (hr.set hn _).congr (hnext _ (by unfold qZ6; rw [hx]; rfl))
  | false =>
   refine ⟨_, rfl, rfl, ?_⟩
   refine hr.congr fun s hs => ?_
   rw [← hnext _ rfl s hs]
   by_cases he2 : s = p.Permits[i].Name
   ·subst he2; rw [dT rfl, cond_true, he]; unfold qZ6; rw [hx]; rfl
   ·rw [dF he2]; rfl
 ·obtain ⟨s1, st'⟩ := s
  obtain ⟨rfl, hr⟩ := hs
  unfold jZ7
  simp only []
  rw [h.plan, jQq, dF (by omega), cond_false]
  exact ⟨_, rfl, hr.congr fun s _ => by rw [jS1]; rfl⟩
theorem qUc {p : GPermitPlan} (ho : OkP p) {B : AO} {l : Str} (hl : jUm p l = true) (hk : (atP p l).Kind = 5) : (jSy p B).es l = B.es l := by
 show (bif jUm p l && decide (stA B l = 2) && jN4 p B (atP p l) then ({ B.es l with state := 3 } : jJj) else B.es l) = _
 rw [qQf ho (jDa hl).1 hk, Bool.and_false]; rfl
theorem gt0 {α : Type} {l : List α} : jJy .gtr (List.length l : Int) 0 = !l.isEmpty := by
 rw [jGr]
 cases l with
 | nil => rfl
 | cons x r => simp
theorem qQu {N : Nat} {p : GPermitPlan} {B : AO} {g : jJq} {st : List (Str × jJj)} {air : List (Str × jJz)} {pe : List (Str × Str)} (hp : SmP p) (ho : OkP p) (hN : 1000000 ≤ N) (h : RelB p B g air) (hst : RSt p B.es st) (b : BdA B) : ∃ o : Bool × List (Str × jJj), jXh (jZl N g air pe) N (false, 0, st) = some o ∧ RSt p (jSy p B).es o.2 ∧ o.1 = p.Permits.any (fun x => decide (stA B x.Name = 2) && jN4 p B x) := by
 have hm := hp.m
 refine jM5 (n := p.Permits.length) (fun i s => s.2.1 = (i : Int) ∧ RSt p (fun s => bif amP p i s then (jSy p B).es s else B.es s) s.2.2 ∧ s.1 = (p.Permits.take i).any (fun x => decide (stA B x.Name = 2) && jN4 p B x)) _ ⟨rfl, hst.congr fun s _ => by unfold amP; simp, by simp⟩ (fun i s hi hs => ?_) (fun s hs => ?_) (by omega)
 ·obtain ⟨fl, s1, st'⟩ := s
  obtain ⟨rfl, hr, rfl⟩ := hs
  simp only [] at hr
  have hx := List.getElem_mem hi
  have hn := jNt hi
  have he : (bif amP p i p.Permits[i].Name then (jSy p B).es p.Permits[i].Name else B.es p.Permits[i].Name) = B.es p.Permits[i].Name := by rw [qZu ho hi]; rfl
  have hg := hr.get _ hn
  rw [he] at hg
  have hi' : jQd N g st' air pe p.Permits[i].Name [2] = some (decide (stA B p.Permits[i].Name = 2)) := by
   unfold jQd
   rw [jS5 (by decide) hN, bS, hg]
   congr 1
   unfold stA
   rw [Bool.eq_iff_iff]; simp
  have hlk : jZc N g st' air pe p.Permits[i] = some (qXu B p.Permits[i]) := by
   rw [jRr (A := { B with es := fun s => bif amP p i s then (jSy p B).es s else B.es s }) hp hN hr (hp.l _ hx) (fun l hl => (ho.lk _ hx l hl).1)]
   congr 1
   unfold qXu
   refine List.filter_congr fun l hl => ?_
   have := ho.lk _ hx l hl
   have e : stA { B with es := fun s => bif amP p i s then (jSy p B).es s else B.es s } l = stA B l := by
    show (bif amP p i l then (jSy p B).es l else B.es l).state = _
    rw [qUc ho this.1 this.2.1]
    cases amP p i l <;> rfl
   rw [e]
  have hnext : ∀ (e : jJj), e = (jSy p B).es p.Permits[i].Name → ∀ s, jUm p s = true → (bif decide (s = p.Permits[i].Name) then e else (bif amP p i s then (jSy p B).es s else B.es s)) = (bif amP p (i + 1) s then (jSy p B).es s else B.es s) := by
   intro e hee s _
   rw [jPl hi]
   by_cases hs : s = p.Permits[i].Name
   ·subst hs; rw [dT rfl, Bool.or_true, cond_true, cond_true, hee]
   ·rw [dF hs, dF (fun x => hs x.symm), Bool.or_false]; rfl
  have hsus : (jSy p B).es p.Permits[i].Name = (bif decide (stA B p.Permits[i].Name = 2) && jN4 p B p.Permits[i] then ({ B.es p.Permits[i].Name with state := 3 } : jJj) else B.es p.Permits[i].Name) := by
   show (bif jUm p p.Permits[i].Name && decide (stA B p.Permits[i].Name = 2) && jN4 p B (atP p p.Permits[i].Name) then ({ B.es p.Permits[i].Name with state := 3 } : jJj) else B.es p.Permits[i].Name) = _
   rw [hn, ho.atP_at hx, Bool.true_and]
  have hany : (p.Permits.take (i + 1)).any (fun x => decide (stA B x.Name = 2) && jN4 p B x) = ((p.Permits.take i).any (fun x => decide (stA B x.Name = 2) && jN4 p B x) || (decide (stA B p.Permits[i].Name = 2) && jN4 p B p.Permits[i])) := by
   rw [List.take_succ_eq_append_getElem hi, List.any_append]; simp
  have hsame : (decide (stA B p.Permits[i].Name = 2) && jN4 p B p.Permits[i]) = false → RSt p (fun s => bif amP p (i + 1) s then (jSy p B).es s else B.es s) st' := fun hb => hr.congr fun s hs => by
   rw [← hnext _ rfl s hs]
   by_cases he2 : s = p.Permits[i].Name
   ·subst he2; rw [dT rfl, cond_true, he, hsus, hb]; rfl
   ·rw [dF he2]; rfl
  have hset : (decide (stA B p.Permits[i].Name = 2) && jN4 p B p.Permits[i]) = true → RSt p (fun s => bif amP p (i + 1) s then (jSy p B).es s else B.es s) (jHd st' p.Permits[i].Name ({ B.es p.Permits[i].Name with state := 3 } : jJj)) := fun hb =>
   (hr.set hn _).congr (hnext _ (by rw [hsus, hb]; rfl))
  unfold jZl
  simp only []
  rw [h.plan, jQq, dT (by omega), cond_true, jVw hi, bS, hi', bS, jDb (by omega), hany]
  by_cases h2 : stA B p.Permits[i].Name = 2
  ·rw [dT h2] at hsame hset ⊢
   simp only [cond_true, Bool.true_and] at hsame hset ⊢
   rw [jSl hp hN h b, bS, gt0]
   unfold jN4 at hsame hset ⊢
   cases hla : (jR3 p B p.Permits[i]).isEmpty with
   | false =>
    rw [hla] at hset
    simp only [Bool.not_false, Bool.true_or, Bool.or_true, Bool.not_true, cond_false, cond_true, bS] at hset ⊢
    refine ⟨_, rfl, rfl, ?_, rfl⟩
    rw [hg]; exact hset trivial
   | true =>
    rw [hla] at hset hsame
    simp only [Bool.not_false, Bool.false_or, Bool.not_true, cond_true, hlk, bS, gt0] at hset hsame ⊢
    cases hu : (qXu B p.Permits[i]).isEmpty with
    | false =>
     rw [hu] at hset
     refine ⟨_, rfl, rfl, ?_, by simp⟩
     rw [hg]; exact hset rfl
    | true =>
     rw [hu] at hsame
     exact ⟨_, rfl, rfl, hsame rfl, by simp⟩
  ·rw [dF h2] at hsame ⊢
   exact ⟨_, rfl, rfl, hsame rfl, by simp⟩
 ·obtain ⟨fl, s1, st'⟩ := s
  obtain ⟨rfl, hr, rfl⟩ := hs
  unfold jZl
  simp only []
  rw [h.plan, jQq, dF (by omega), cond_false]
  exact ⟨_, rfl, hr.congr fun s hs => by rw [jS1, hs]; rfl, by rw [List.take_length]⟩
theorem BdA.exp {p : GPermitPlan} {A : AO} (b : BdA A) : BdA (jT1 p A) := ⟨b.tm, fun s => by
 rcases qVx (p := p) (A := A) (s := s) with e | ⟨e, _⟩ <;> rw [e]
 ·exact b.st s
 ·decide, b.tt, b.pl⟩
theorem BdA.sus {p : GPermitPlan} {A : AO} (b : BdA A) : BdA (jSy p A) := ⟨b.tm, fun s => by
 rcases jT0 (p := p) (A := A) (s := s) with ⟨e, _⟩ | ⟨e, _⟩ <;> rw [e]
 ·exact b.st s
 ·decide, b.tt, b.pl⟩
theorem BdA.settle {p : GPermitPlan} {A : AO} (b : BdA A) : BdA (jZd p A) := b.exp.sus
theorem jRl {N : Nat} {p : GPermitPlan} {A : AO} {g : jJq} {st : List (Str × jJj)} {air : List (Str × jJz)} {pe : List (Str × Str)} (hp : SmP p) (ho : OkP p) (hN : 1000000 ≤ N) (h : RelB p A g air) (hst : RSt p A.es st) (b : BdA A) : ∃ st', jZp N g st air pe = some st' ∧ RSt p (jZd p A).es st' := by
 unfold jZp
 obtain ⟨s1, h1, r1⟩ := qWr (pe := pe) hp ho hN h hst b
 rw [h1, bS]
 have hE : RelB p (jT1 p A) g air := ⟨h.plan, h.now, h.hair, h.airg⟩
 have hS : RelB p (jZd p A) g air := ⟨h.plan, h.now, h.hair, h.airg⟩
 obtain ⟨⟨f2, s2⟩, h2, r2, e2⟩ := qQu (pe := pe) hp ho hN hE r1 b.exp
 obtain ⟨⟨f3, s3⟩, h3, r3, e3⟩ := qQu (pe := pe) hp ho hN hS r2 b.settle
 have e3' : f3 = false := by
  rw [show f3 = _ from e3, Bool.eq_false_iff]
  intro hx
  rw [List.any_eq_true] at hx
  obtain ⟨x, hx, hb⟩ := hx
  rw [Bool.and_eq_true, decide_eq_true_eq] at hb
  rw [jMw ho hx hb.1] at hb
  cases hb.2
 subst e3'
 obtain ⟨M, rfl⟩ : ∃ M, N = M + 3 := ⟨N - 3, by omega⟩
 have step : ∀ (st : List (Str × jJj)) (o : Bool × List (Str × jJj)), jXh (jZl (M + 3) g air pe) (M + 3) (false, 0, st) = some o → jZ8 (M + 3) g air pe (true, st) = some (.inl o) := by
  intro st o ho
  unfold jZ8
  rw [cond_true, ho]; rfl
 have stop : ∀ st : List (Str × jJj), jZ8 (M + 3) g air pe (false, st) = some (.inr st) := fun st => rfl
 cases f2 with
 | false =>
  refine ⟨s2, ?_, r2⟩
  rw [show M + 3 = (M + 2) + 1 from rfl]
  simp only [jXh, step _ _ h2, stop]; rfl
 | true =>
  refine ⟨s3, ?_, r3.congr fun s hs => ?_⟩
  ·simp only [jXh, step _ _ h2, step _ _ h3, stop]; rfl
  ·show (bif jUm p s && decide (stA (jZd p A) s = 2) && jN4 p (jZd p A) (atP p s) then ({ (jZd p A).es s with state := 3 } : jJj) else (jZd p A).es s) = _
   by_cases h2 : stA (jZd p A) s = 2
   ·obtain ⟨hm, hnm⟩ := jDa hs
    rw [jMw ho hm (by rw [hnm]; exact h2), Bool.and_false]; rfl
   ·rw [dF h2, Bool.and_false, Bool.false_and]; rfl
end Go.KB
namespace Go.KB
set_option linter.unusedVariables false
theorem qVq {N : Nat} {l : List jJt} {f : jJt → Option Bool} {g : jJt → Bool} (hf : ∀ y, f y = some (g y)) (hl : l.length < 1000000) (hN : 1000000 ≤ N) : jXu N l f = some (ixI g l) := by
 unfold jXu
 refine jHl (fun i hi => ?_) ?_ (by omega)
 ·unfold jQ4
  rw [jQq, dT (by omega), cond_true, jVw hi, bS, hf, bS, jDb (by omega)]
 ·unfold jQ4
  rw [jQq, dF (by omega), cond_false]
theorem ixI_ge {α : Type} {g : α → Bool} {l : List α} : jJy .geq (ixI g l) 0 = l.any g := by
 have := jMs (g := g) (l := l)
 rw [jDw]
 cases h2 : l.any g with
 | true => rw [h2] at this; simp at this; rw [dT (by omega)]
 | false => rw [h2] at this; simp at this; rw [dF (by omega)]
theorem jA0 {N : Nat} {p : GPermitPlan} {x y : jJu} (hp : SmP p) (hN : 1000000 ≤ N) : jUh N p x y = some (jBv p x y) := by
 have hx := hp.x
 unfold jUh jBv
 rw [jUs, jPe hp hN]
 cases decide (x.Name = y.Name) with
 | true => rfl
 | false =>
  rw [cond_false, cond_false, bS]
  unfold jX2
  rw [qVq (g := fun e => exE e (jUl p x.Space y.Space) x.Kind y.Kind) (fun e => by unfold jYs exE; simp only [jB9, jUt]) (by omega) hN, bS, ixI_ge]; rfl
theorem cloneS {N : Nat} {l : List jJ5} (h : l.length < 1000) : jXd N l = some l := by
 have hlim : lim ≥ 1000000 := by decide
 unfold jXd; rw [qQ6 (by simp only [List.length_nil]; omega)]; rfl
theorem cloneP {N : Nat} {l : List jJu} (h : l.length < 1000) : jXq N l = some l := by
 have hlim : lim ≥ 1000000 := by decide
 unfold jXq; rw [qQ6 (by simp only [List.length_nil]; omega)]; rfl
theorem cloneE {N : Nat} {l : List jJt} (h : l.length < 1000) : jXc N l = some l := by
 have hlim : lim ≥ 1000000 := by decide
 unfold jXc; rw [qQ6 (by simp only [List.length_nil]; omega)]; rfl
theorem qKj {N : Nat} {l : List Str} (h : l.length < 1000) : jQc N l = some l := by
 have hlim : lim ≥ 1000000 := by decide
 unfold jQc; rw [qQ6 (by simp only [List.length_nil]; omega)]; rfl
theorem qJ9 {α : Type} {l : List α} {i : Nat} (h : i < l.length) : l.set i l[i] = l := List.set_getElem_self h
theorem qZ5 {N : Nat} {p : GPermitPlan} (hp : SmP p) (hN : 1000000 ≤ N) : jGs N p = some p := by
 have h1 := hp.s
 have h2 := hp.x
 have h3 := hp.m
 unfold jGs
 rw [cloneS h1, cloneE h2, cloneP h3]
 simp only [bS]
 have e2 : jXh (jW8 N p.Spaces) N (0, p.Spaces) = some p.Spaces := jRh (f := jW8 N p.Spaces) (n := p.Spaces.length) (fun i => ((i : Int), p.Spaces)) p.Spaces (fun i hi => by
  unfold jW8
  simp only []
  rw [jQq, dT (by omega), cond_true, jVw hi, bS, qKj (hp.n _ (List.getElem_mem hi)), bS, bS, jDb (by omega), Int.toNat_natCast, qJ9 hi]) (by
  unfold jW8
  simp only []
  rw [jQq, dF (by omega), cond_false]) (by omega)
 have e1 : jXh (jW6 N p.Permits) N (0, p.Permits) = some p.Permits := jRh (f := jW6 N p.Permits) (n := p.Permits.length) (fun i => ((i : Int), p.Permits)) p.Permits (fun i hi => by
  unfold jW6
  simp only []
  rw [jQq, dT (by omega), cond_true, jVw hi, bS, qKj (hp.l _ (List.getElem_mem hi)), bS, bS, jDb (by omega), Int.toNat_natCast, qJ9 hi]) (by
  unfold jW6
  simp only []
  rw [jQq, dF (by omega), cond_false]) (by omega)
 rw [e2, e1]; rfl
def newE (p : GPermitPlan) : AO := ⟨0, fun s => bif jUm p s then ⟨0, [], (atP p s).To⟩ else ⟨0, [], 0⟩, fun _ => none, [], []⟩
theorem qUt (p : GPermitPlan) : BdA (newE p) := ⟨⟨by show (0 : Int) ≤ 0; omega, by show (0 : Int) ≤ 1000000; omega⟩, fun s => by unfold stA newE; simp only []; cases jUm p s <;> simp, (fun s t e => by cases e), by show 0 < 1000000; omega⟩
theorem qY2 {N : Nat} {p : GPermitPlan} (hp : SmP p) (ho : OkP p) (hN : 1000000 ≤ N) : ∃ st, jXh (jWm N p) N (0, ([] : List (Str × jJj))) = some st ∧ RSt p (newE p).es st := by
 have hm := hp.m
 have key : ∃ st, jXh (jWm N p) N (0, ([] : List (Str × jJj))) = some st ∧ (∀ n, amP p p.Permits.length n = true → jZj (⟨0, [], 0⟩ : jJj) st n = ⟨0, [], (atP p n).To⟩) ∧ ∀ n, jKs st n = amP p p.Permits.length n := by
  refine jM5 (N := N) (n := p.Permits.length) (f := jWm N p) (s0 := (0, ([] : List (Str × jJj)))) (fun i s => s.1 = (i : Int) ∧ (∀ n, amP p i n = true → jZj (⟨0, [], 0⟩ : jJj) s.2 n = ⟨0, [], (atP p n).To⟩) ∧ ∀ n, jKs s.2 n = amP p i n) (fun st => (∀ n, amP p p.Permits.length n = true → jZj (⟨0, [], 0⟩ : jJj) st n = ⟨0, [], (atP p n).To⟩) ∧ ∀ n, jKs st n = amP p p.Permits.length n) ⟨rfl, fun n h => by unfold amP at h; simp at h, fun n => by unfold amP; simp [jKs]⟩ (fun i s hi hs => ?_) (fun s hs => ?_) (by omega)
  ·obtain ⟨s1, st⟩ := s
   obtain ⟨rfl, h1, h2⟩ := hs
   simp only [] at h1 h2
   refine ⟨_, by unfold jWm; simp only []; rw [jQq, dT (by omega), cond_true, jVw hi, bS, jDb (by omega)], rfl, fun n hn => ?_, fun n => ?_⟩
   ·simp only []
    rw [jLh]
    by_cases he : n = p.Permits[i].Name
    ·rw [if_pos he, he, ho.atP_at (List.getElem_mem hi)]
    ·rw [if_neg he]
     rw [jPl hi, dF (fun x => he x.symm), Bool.or_false] at hn
     exact h1 n hn
   ·simp only []
    rw [jNk, h2, jPl hi, Bool.or_comm]
    congr 1
    exact decide_eq_decide.2 ⟨Eq.symm, Eq.symm⟩
  ·obtain ⟨s1, st⟩ := s
   obtain ⟨rfl, h1, h2⟩ := hs
   refine ⟨st, ?_, h1, h2⟩
   unfold jWm
   simp only []
   rw [jQq, dF (by omega), cond_false]
 obtain ⟨st, h1, h2, h3⟩ := key
 exact ⟨st, h1, fun s hs => by rw [h2 s (by rw [jS1]; exact hs)]; show _ = (bif jUm p s then _ else _); rw [hs]; rfl, fun s => by rw [h3, jS1]⟩
theorem New_eq {N : Nat} {p : GPermitPlan} (hp : SmP p) (ho : jWs p = 0) (hN : 1000000 ≤ N) : ∃ st, jK3 N p = some (some ((⟨p, 0, []⟩ : jJq), st, [], []), 0) ∧ RelA p (newA p) (⟨p, 0, []⟩ : jJq) st [] [] := by
 have hk := okP ho
 unfold jK3
 rw [jN2 hp hN, ho, bS, jH2, dT rfl, Bool.not_true, cond_false, qZ5 hp hN, bS]
 obtain ⟨s1, h1, r1⟩ := qY2 hp hk hN
 rw [h1, bS]
 have hb : RelB p (newE p) (⟨p, 0, []⟩ : jJq) [] := ⟨rfl, rfl, fun s => rfl, fun s t e => by cases e⟩
 obtain ⟨s2, h2, r2⟩ := jRl (pe := ([] : List (Str × Str))) hp hk hN hb r1 (qUt p)
 rw [h2, bS]
 exact ⟨s2, rfl, ⟨rfl, rfl, fun s => rfl, fun s t e => by cases e⟩, r2, List.Perm.refl _, rfl⟩
end Go.KB
