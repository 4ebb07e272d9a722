/- Plain laws of chapter 7: what stays true in an office. Plain laws of chapter 7: the program's office settles. Plain laws of chapter 7: which permits exclude each other; the new office. No condition. -/
import Derived.Test.YtekbfkfjhgfieaaGreatPZm
namespace Go.KB
set_option linter.unusedVariables false
theorem bifD {α : Type} {q : Prop} [Decidable q] {a b : α} : (bif decide q then a else b) = if q then a else b := by
 by_cases h : q
 ·rw [dT h, if_pos h]; rfl
 ·rw [dF h, if_neg h]; rfl
structure WA (p : GPermitPlan) (d : List GEvent) (A : AO) : Prop where
 st : ∀ s, 0 ≤ stA A s ∧ stA A s ≤ 6
 fr : ∀ x ∈ p.Permits, stA A x.Name = 2 → x.From ≤ A.now
 ex : ∀ x ∈ p.Permits, ∀ y ∈ p.Permits, stA A x.Name = 2 → stA A y.Name = 2 → jHs p x y = false
 tm : 0 ≤ A.now ∧ A.now ≤ 1000000
 to : ∀ x ∈ p.Permits, (A.es x.Name).to_ = x.To ∨ ∃ v ∈ d, v.Op = 11 ∧ v.Name = x.Name ∧ v.To = (A.es x.Name).to_
 pp : A.pp.Pairwise (fun a b => a.1 < b.1)
 tt : ∀ s t, A.ts s = some t → 0 ≤ t.at_ ∧ t.at_ ≤ 1000000
 pl : A.pp.length ≤ d.length
structure qZj (p : GPermitPlan) (A : AO) : Prop where
 w : WA p A.done A
 un : ∀ x ∈ p.Permits, stA A x.Name = 2 → jN4 p A x = false
 li : ∀ x ∈ p.Permits, stA A x.Name ≤ 3 → A.now < (A.es x.Name).to_
theorem WA.le {p : GPermitPlan} {d : List GEvent} {A A' : AO} (h : WA p d A) (hs : ∀ s, stA A' s = stA A s ∨ (0 ≤ stA A' s ∧ stA A' s ≤ 6 ∧ stA A' s ≠ 2)) (ht : ∀ s, (A'.es s).to_ = (A.es s).to_) (hn : A.now ≤ A'.now ∧ A'.now ≤ 1000000) (hp : A'.pp.Pairwise (fun a b => a.1 < b.1)) (hq : ∀ s t, A'.ts s = some t → A.ts s = some t ∨ (0 ≤ t.at_ ∧ t.at_ ≤ 1000000)) (hl : A'.pp.length ≤ d.length) : WA p d A' := by
 have h2 : ∀ s, stA A' s = 2 → stA A s = 2 := fun s e => by
  rcases hs s with h1 | h1
  ·rw [← h1]; exact e
  ·exact absurd e h1.2.2
 have htm := h.tm
 refine ⟨fun s => ?_, fun x hx e => ?_, fun x hx y hy e f => h.ex x hx y hy (h2 _ e) (h2 _ f), ⟨by omega, hn.2⟩, fun x hx => ?_, hp, fun s t e => (hq s t e).elim (h.tt s t) id, hl⟩
 ·rcases hs s with h1 | h1
  ·rw [h1]; exact h.st s
  ·exact ⟨h1.1, h1.2.1⟩
 ·have := h.fr x hx (h2 _ e); omega
 ·rw [ht]; exact h.to x hx
theorem WA.mono {p : GPermitPlan} {d d' : List GEvent} {A : AO} (h : WA p d A) (hd : ∀ v ∈ d, v ∈ d') (hl : d.length ≤ d'.length) : WA p d' A :=
 ⟨h.st, h.fr, h.ex, h.tm, fun x hx => (h.to x hx).imp id fun ⟨v, hv, e⟩ => ⟨v, hd v hv, e⟩, h.pp, h.tt, by have := h.pl; omega⟩
theorem WA.snoc {p : GPermitPlan} {d : List GEvent} {A : AO} {x : GEvent} (h : WA p d A) : WA p (d ++ [x]) A := h.mono (fun v hv => List.mem_append_left _ hv) (by simp)
theorem up_es {A : AO} {n s : Str} {e : jJq} : (upA A n e).es s = if s = n then e else A.es s := bifD
theorem qXm {A : AO} {n s : Str} {e : jJq} : stA (upA A n e) s = if s = n then e.state else stA A s := by
 unfold stA; rw [up_es]; split <;> rfl
theorem WA.up {p : GPermitPlan} {d : List GEvent} {A : AO} {n : Str} {e : jJq} (h : WA p d A) (he : 0 ≤ e.state ∧ e.state ≤ 6) (h2 : e.state = 2 → ∀ x ∈ p.Permits, x.Name = n → x.From ≤ A.now ∧ ∀ y ∈ p.Permits, stA A y.Name = 2 → jHs p x y = false) (ht : e.to_ = (A.es n).to_ ∨ ∃ v ∈ d, v.Op = 11 ∧ v.Name = n ∧ v.To = e.to_) : WA p d (upA A n e) := by
 refine ⟨fun s => ?_, fun x hx => ?_, fun x hx y hy => ?_, h.tm, fun x hx => ?_, h.pp, h.tt, h.pl⟩
 ·rw [qXm]; split
  ·exact he
  ·exact h.st s
 ·rw [qXm]; split
  ·rename_i hn; intro e2; exact (h2 e2 x hx hn).1
  ·intro e2; exact h.fr x hx e2
 ·rw [qXm, qXm]
  split
  ·rename_i hn
   split
   ·rename_i hm; intro _ _; unfold jHs; rw [dT (hn.trans hm.symm)]; rfl
   ·intro e2 f2; exact (h2 e2 x hx hn).2 y hy f2
  ·split
   ·rename_i hm; intro e2 f2; rw [jNt]; exact (h2 f2 y hy hm).2 x hx e2
   ·exact h.ex x hx y hy
 ·rw [up_es]
  split
  ·rename_i hn
   rcases ht with ht | ⟨v, hv, a, b, c⟩
   ·rw [ht, ← hn]; exact h.to x hx
   ·exact .inr ⟨v, hv, a, b.trans hn.symm, c⟩
  ·exact h.to x hx
theorem qZ7 {p : GPermitPlan} {A : AO} {s : Str} : stA (jCq p A) s = stA A s ∨ (stA (jCq p A) s = 6 ∧ stA A s ≤ 3 ∧ (A.es s).to_ ≤ A.now) := by
 unfold stA jCq qWv
 simp only []
 cases jUs p s with
 | false => exact .inl rfl
 | true =>
  rw [cond_true]
  by_cases h : (A.es s).state ≤ 3
  ·rw [dT h]
   by_cases h1 : (A.es s).to_ ≤ A.now
   ·rw [dT h1]; exact .inr ⟨rfl, h, h1⟩
   ·rw [dF h1]; exact .inl rfl
  ·rw [dF h]; exact .inl rfl
theorem exp_to {p : GPermitPlan} {A : AO} {s : Str} : ((jCq p A).es s).to_ = (A.es s).to_ := by
 unfold jCq qWv
 simp only []
 cases jUs p s with
 | false => rfl
 | true => rw [cond_true]; cases (decide ((A.es s).state ≤ 3) && decide ((A.es s).to_ ≤ A.now)) <;> rfl
theorem exp_li {p : GPermitPlan} {A : AO} {s : Str} (hs : jUs p s = true) (h : stA (jCq p A) s ≤ 3) : A.now < (A.es s).to_ := by
 unfold stA jCq qWv at h
 simp only [] at h
 rw [hs, cond_true] at h
 by_cases h3 : (A.es s).state ≤ 3
 ·rw [dT h3] at h
  by_cases h1 : (A.es s).to_ ≤ A.now
  ·rw [dT h1] at h; simp at h
  ·omega
 ·rw [dF h3] at h; simp at h; omega
theorem jCe {p : GPermitPlan} {A : AO} {s : Str} : (stA (jSz p A) s = stA A s ∧ ¬ (jUs p s = true ∧ stA A s = 2 ∧ jN4 p A (atP p s) = true)) ∨ (stA (jSz p A) s = 3 ∧ stA A s = 2 ∧ jN4 p A (atP p s) = true) := by
 have e : stA (jSz p A) s = (bif jUs p s && decide (stA A s = 2) && jN4 p A (atP p s) then ({ A.es s with state := 3 } : jJq) else A.es s).state := rfl
 rw [e]
 cases h1 : jUs p s with
 | false => exact .inl ⟨rfl, fun h => by cases h.1⟩
 | true =>
  by_cases h2 : stA A s = 2
  ·rw [dT h2]
   cases h3 : jN4 p A (atP p s) with
   | false => exact .inl ⟨rfl, fun h => by cases h.2.2⟩
   | true => exact .inr ⟨rfl, h2, rfl⟩
  ·rw [dF h2]; exact .inl ⟨rfl, fun h => h2 h.2.1⟩
theorem sus_to {p : GPermitPlan} {A : AO} {s : Str} : ((jSz p A).es s).to_ = (A.es s).to_ := by
 unfold jSz
 simp only []
 cases (jUs p s && decide (stA A s = 2) && jN4 p A (atP p s)) <;> rfl
theorem jM2 {p : GPermitPlan} {A : AO} {s : Str} : stA (jZf p A) s = stA A s ∨ ((stA (jZf p A) s = 6 ∨ stA (jZf p A) s = 3) ∧ stA A s ≤ 3) := by
 unfold jZf
 rcases jCe (p := p) (A := jCq p A) (s := s) with ⟨h1, _⟩ | ⟨h1, h2, _⟩
 ·rw [h1]; rcases qZ7 (p := p) (A := A) (s := s) with h | h
  ·exact .inl h
  ·exact .inr ⟨.inl h.1, h.2.1⟩
 ·refine .inr ⟨.inr h1, ?_⟩
  rcases qZ7 (p := p) (A := A) (s := s) with h | h
  ·rw [← h, h2]; decide
  ·exact h.2.1
theorem jCy {p : GPermitPlan} {A : AO} {s : Str} : ((jZf p A).es s).to_ = (A.es s).to_ := sus_to.trans exp_to
theorem WA.settle {p : GPermitPlan} {d : List GEvent} {A : AO} (h : WA p d A) : WA p d (jZf p A) :=
 h.le (fun s => (jM2 (p := p) (A := A) (s := s)).imp id fun ⟨h1, _⟩ => by rcases h1 with h1 | h1 <;> rw [h1] <;> decide) (fun s => jCy) ⟨Int.le_refl _, h.tm.2⟩ h.pp (fun s t e => .inl e) h.pl
theorem qJm {p : GPermitPlan} (hp : OkP p) {A : AO} {x : jJu} (hx : x ∈ p.Permits) (hk : x.Kind = 5) : jN4 p A x = false := by
 have h1 : jRg p x = [] := by unfold jRg jP5; rw [hk]; rfl
 have h2 : x.Locks = [] := by
  cases hl : x.Locks with
  | nil => rfl
  | cons l r => exact absurd hk (hp.lk x hx l (by rw [hl]; exact List.mem_cons_self)).2.2
 unfold jN4 jSj qXv
 rw [h1, h2]; rfl
theorem qUd {A : AO} {x : jJu} : (qXv A x).isEmpty = true ↔ ∀ l ∈ x.Locks, stA A l = 2 := by
 unfold qXv
 rw [List.isEmpty_iff, List.filter_eq_nil_iff]
 constructor
 ·intro h l hl; have := h l hl; simpa using this
 ·intro h l hl; rw [h l hl]; decide
theorem jMg {p : GPermitPlan} (hp : OkP p) {A : AO} {x : jJu} (hx : x ∈ p.Permits) (h2 : stA (jZf p A) x.Name = 2) : jN4 p (jZf p A) x = false := by
 unfold jZf at h2 ⊢
 have hh : jUs p x.Name = true := jBe.2 ⟨x, hx, rfl⟩
 rcases jCe (p := p) (A := jCq p A) (s := x.Name) with ⟨h, hn⟩ | ⟨h, _⟩
 ·rw [h] at h2
  have hb : jN4 p (jCq p A) x = false := by
   rw [hp.atP_at hx] at hn
   cases hb : jN4 p (jCq p A) x with
   | false => rfl
   | true => exact absurd ⟨hh, h2, hb⟩ hn
  unfold jN4 at hb ⊢
  rw [Bool.or_eq_false_iff] at hb ⊢
  refine ⟨hb.1, ?_⟩
  have hb2 := hb.2
  rw [Bool.not_eq_false', qUd] at hb2 ⊢
  intro l hl
  obtain ⟨h5, h6, _⟩ := hp.lk x hx l hl
  rcases jCe (p := p) (A := jCq p A) (s := l) with ⟨h7, _⟩ | ⟨_, _, h7⟩
  ·rw [h7]; exact hb2 l hl
  ·rw [qJm hp (jBa h5).1 h6] at h7; cases h7
 ·rw [h] at h2; cases h2
theorem qVg {p : GPermitPlan} {A : AO} {s : Str} (hs : jUs p s = true) (h : stA (jZf p A) s ≤ 3) : A.now < ((jZf p A).es s).to_ := by
 rw [jCy]
 unfold jZf at h
 refine exp_li hs ?_
 rcases jCe (p := p) (A := jCq p A) (s := s) with ⟨h1, _⟩ | ⟨h1, h2, _⟩
 ·rw [h1] at h; exact h
 ·rw [h2]; decide
theorem jLa {p : GPermitPlan} (hp : OkP p) {d : List GEvent} {A : AO} (h : WA p d A) : qZj p { jZf p A with done := d } :=
 ⟨⟨h.settle.st, h.settle.fr, h.settle.ex, h.settle.tm, h.settle.to, h.settle.pp, h.settle.tt, h.settle.pl⟩, fun x hx e => jMg hp (A := A) hx e, fun x hx e => qVg (A := A) (jBe.2 ⟨x, hx, rfl⟩) e⟩
theorem qKc {p : GPermitPlan} {A : AO} {x : jJu} (h : qWw p A x = []) : x.From ≤ A.now ∧ ∀ y ∈ p.Permits, stA A y.Name = 2 → jHs p y x = false := by
 unfold qWw at h
 obtain ⟨h1, h2⟩ := List.append_eq_nil_iff.1 h
 constructor
 ·by_cases hf : A.now < x.From
  ·rw [dT hf] at h1; cases h1
  ·omega
 ·intro y hy e
  rw [List.filter_eq_nil_iff] at h2
  have := h2 (⟨20, jKg p A (fun y => jHs p y x)⟩ : jJ8) (by simp)
  have h3 : jKg p A (fun y => jHs p y x) = [] := by simpa using this
  unfold jKg at h3
  rw [List.map_eq_nil_iff, List.filter_eq_nil_iff] at h3
  have := h3 y hy
  rw [dT e] at this
  simpa using this
theorem qZ5 {q : Str × Str} {n s : Str} : ∀ {l : List (Str × Str)}, q ∈ qQe l n s → q = (n, s) ∨ q ∈ l
 | [], h => by simpa [qQe] using h
 | a :: r, h => by
  unfold qQe at h
  cases hd : decide (a.1 < n) with
  | false => rw [hd, cond_false] at h; simpa using h
  | true =>
   rw [hd, cond_true] at h
   rcases List.mem_cons.1 h with rfl | h
   ·exact .inr List.mem_cons_self
   ·exact (qZ5 h).imp id fun h => List.mem_cons_of_mem _ h
theorem qVf {n s : Str} : ∀ {l : List (Str × Str)}, (qQe l n s).length = l.length + 1
 | [] => rfl
 | a :: r => by
  unfold qQe
  cases decide (a.1 < n) with
  | true => rw [cond_true, List.length_cons, qVf, List.length_cons]
  | false => rfl
theorem jSm {n s : Str} : ∀ {l : List (Str × Str)}, (l.any fun q => decide (q.1 = n)) = false → l.Pairwise (fun a b => a.1 < b.1) → (qQe l n s).Pairwise (fun a b => a.1 < b.1)
  | [], _, _ => by simp [qQe]
  | a :: r, hn, h => by
    rw [List.any_cons, Bool.or_eq_false_iff, decide_eq_false_iff_not] at hn
    rw [List.pairwise_cons] at h
    unfold qQe
    cases hd : decide (a.1 < n) with
    | false =>
      rw [cond_false, List.pairwise_cons]
      rw [decide_eq_false_iff_not] at hd
      have hlt : n < a.1 := by
        rcases List.le_iff_lt_or_eq.1 (show n ≤ a.1 from hd) with h1 | h1
        · exact h1
        · exact absurd h1.symm hn.1
      refine ⟨fun q hq => ?_, List.pairwise_cons.2 h⟩
      rcases List.mem_cons.1 hq with rfl | hq
      · exact hlt
      · exact List.lt_trans hlt (h.1 q hq)
    | true =>
      rw [decide_eq_true_eq] at hd
      rw [cond_true, List.pairwise_cons]
      refine ⟨fun q hq => ?_, jSm hn.2 h.2⟩
      rcases qZ5 hq with rfl | hq
      · exact hd
      · exact h.1 q hq
def StepA (p : GPermitPlan) (A : AO) (x : GEvent) (r : AO × List Str × Int) : Prop :=
 (r.2.2 ≠ 0 → r.1 = A) ∧ (∀ d, WA p d A → WA p (d ++ [x]) r.1) ∧ r.1.now = A.now ∧ r.1.done = A.done ∧
 (∀ s, stA A s ≥ 4 → stA r.1 s = stA A s) ∧ (∀ s, stA r.1 s = 2 → stA A s ≠ 2 → (x.Op = 2 ∨ x.Op = 4) ∧ x.Name = s ∧ r.2.2 = 0)
theorem jKk {p : GPermitPlan} {A : AO} {x : GEvent} {e : Int} {l : List Str} : StepA p A x (jL9 A e l) :=
 ⟨fun _ => rfl, fun d h => h.snoc, rfl, rfl, fun _ _ => rfl, fun s h1 h2 => absurd h1 h2⟩
theorem step_up {p : GPermitPlan} {A : AO} {x : GEvent} {n : Str} {e : jJq} (h4 : stA A n ≤ 3) (he : 0 ≤ e.state ∧ e.state ≤ 6) (h2 : ∀ d, WA p d A → e.state = 2 → ∀ x ∈ p.Permits, x.Name = n → x.From ≤ A.now ∧ ∀ y ∈ p.Permits, stA A y.Name = 2 → jHs p x y = false) (ht : e.to_ = (A.es n).to_ ∨ (x.Op = 11 ∧ x.Name = n ∧ x.To = e.to_)) (ho : e.state = 2 → stA A n ≠ 2 → (x.Op = 2 ∨ x.Op = 4) ∧ x.Name = n) : StepA p A x (jTn (upA A n e)) := by
 refine ⟨fun h => absurd rfl h, fun d h => ?_, rfl, rfl, fun s hs => ?_, fun s h1 hne => ?_⟩
 ·exact h.snoc.up he (fun e2 => h2 d h e2) (ht.imp id fun ⟨a, b, c⟩ => ⟨x, List.mem_append_right _ (List.mem_singleton_self _), a, b, c⟩)
 ·show stA (upA A n e) s = _
  rw [qXm]
  split
  ·rename_i h; subst h; omega
  ·rfl
 ·have h1' : stA (upA A n e) s = 2 := h1
  rw [qXm] at h1'
  split at h1'
  ·rename_i h; subst h; exact ⟨(ho h1' hne).1, (ho h1' hne).2, rfl⟩
  ·exact absurd h1' hne
theorem jAe {p : GPermitPlan} {A : AO} {x : GEvent} {n : Str} {k : Int} (h4 : stA A n ≤ 3) (hk : 0 ≤ k ∧ k ≤ 6) (h2 : k ≠ 2) : StepA p A x (jTn (beA A n k)) :=
 step_up h4 hk (fun d _ e => absurd e h2) (.inl rfl) (fun e => absurd e h2)
theorem jM7 {p : GPermitPlan} {A A' : AO} {x : GEvent} (he : A'.es = A.es) (hn : A'.now = A.now) (hd : A'.done = A.done) (hp : A.pp.Pairwise (fun a b => a.1 < b.1) → A'.pp.Pairwise (fun a b => a.1 < b.1)) (hq : 0 ≤ A.now ∧ A.now ≤ 1000000 → ∀ s t, A'.ts s = some t → A.ts s = some t ∨ (0 ≤ t.at_ ∧ t.at_ ≤ 1000000)) (hl : A'.pp.length ≤ A.pp.length + 1) : StepA p A x (jTn A') := by
 have hs : ∀ s, stA A' s = stA A s := fun s => by unfold stA; rw [he]
 refine ⟨fun h => absurd rfl h, fun d h => ?_, hn, hd, fun s _ => hs s, fun s h1 h2 => absurd ((hs s).symm.trans h1) h2⟩
 exact h.snoc.le (fun s => .inl (hs s)) (fun s => by show (A'.es s).to_ = _; rw [he]) ⟨by show A.now ≤ A'.now; omega, by have := h.tm; show A'.now ≤ _; omega⟩ (hp h.pp) (hq h.tm) (by have := h.pl; rw [List.length_append]; simp only [List.length_singleton]; show A'.pp.length ≤ _; omega)
theorem jSe {p : GPermitPlan} (hp : OkP p) {A : AO} {x : GEvent} (ho : x.Op = 2 ∨ x.Op = 4) (h4 : stA A x.Name ≤ 3) (hh : jUs p x.Name = true) : StepA p A x (jN1 p A x) := by
 unfold jN1
 cases jWr x.Person with
 | false => exact jKk
 | true =>
  cases decide (x.Person = (A.es x.Name).by_) with
  | true => exact jKk
  | false =>
   simp only [Bool.not_true, cond_false]
   cases hw : qWw p A (atP p x.Name) with
   | cons r l => exact jKk
   | nil =>
    refine step_up h4 (by simp) (fun d hd _ y hy hn => ?_) (.inl rfl) (fun _ _ => ⟨ho, rfl⟩)
    have hy2 : atP p x.Name = y := by rw [← hn]; exact hp.atP_at hy
    rw [hy2] at hw
    obtain ⟨h1, h2⟩ := qKc hw
    exact ⟨h1, fun z hz e => by rw [jNt]; exact h2 z hz e⟩
theorem jTd {p : GPermitPlan} (hp : OkP p) {A : AO} {x : GEvent} (h0 : 0 ≤ x.Op) (h12 : x.Op < 12) : StepA p A x (qWy p A x) := by
  have hop : x.Op = 0 ∨ x.Op = 1 ∨ x.Op = 2 ∨ x.Op = 3 ∨ x.Op = 4 ∨ x.Op = 5 ∨ x.Op = 6 ∨ x.Op = 7 ∨ x.Op = 8 ∨ x.Op = 9 ∨ x.Op = 10 ∨ x.Op = 11 := by omega
  have acts : ∀ {l : List Int} {R : AO × List Str × Int}, (∀ k ∈ l, k ≤ 3) → (jUs p x.Name = true → stA A x.Name ∈ l → stA A x.Name ≤ 3 → StepA p A x R) → StepA p A x (bif !jUs p x.Name then jL9 A 6 [] else bif !l.contains (stA A x.Name) then jL9 A 18 [] else R) := by
    intro l R hl hR
    cases hh : jUs p x.Name with
    | false => exact jKk
    | true =>
      cases hc : l.contains (stA A x.Name) with
      | false => exact jKk
      | true =>
        have hm : stA A x.Name ∈ l := by simpa using hc
        exact hR hh hm (hl _ hm)
  unfold qWy jMm qZh
  rcases hop with h | h | h | h | h | h | h | h | h | h | h | h <;> simp only [h, if_true, if_false, Int.reduceEq]
  · exact jM7 rfl rfl rfl id (fun _ s t e => .inl e) (Nat.le_succ _)
  · refine acts (by decide) fun hh hm h4 => ?_
    unfold jPv
    cases jWr x.Person with
    | false => exact jKk
    | true => exact step_up h4 (by simp) (fun _ _ e => by cases e) (.inl rfl) (fun e => by cases e)
  · exact acts (by decide) fun hh hm h4 => jSe hp (.inl h) h4 hh
  · exact acts (by decide) fun hh hm h4 => jAe h4 (by decide) (by decide)
  · exact acts (by decide) fun hh hm h4 => jSe hp (.inr h) h4 hh
  · refine acts (by decide) fun hh hm h4 => ?_
    unfold jNg
    simp only []
    cases (decide ((atP p x.Name).Kind = 5) && !(jKg p A (fun z => inL z.Locks (atP p x.Name).Name)).isEmpty) with
    | true => exact jKk
    | false =>
      rw [cond_false]
      cases (decide ((atP p x.Name).Kind = 1) && decide (stA A (atP p x.Name).Name = 2) && (atS p (atP p x.Name).Space).Enclosed && (jKg p A (fun z => decide (z.Kind = 1) && decide (z.Space = (atP p x.Name).Space) && !decide (z.Name = (atP p x.Name).Name))).isEmpty && !(jMw A (fun s => decide (s = (atP p x.Name).Space))).isEmpty) with
      | true => exact jKk
      | false => exact jAe h4 (by decide) (by decide)
  · exact acts (by decide) fun hh hm h4 => jAe h4 (by decide) (by decide)
  · unfold gasA
    cases jPu p x.Space with
    | false => exact jKk
    | true =>
      cases (decide (x.Oxygen < 0) || decide (1000 < x.Oxygen) || decide (x.Gas < 0) || decide (1000 < x.Gas)) with
      | true => exact jKk
      | false =>
        refine jM7 rfl rfl rfl id (fun hn s t e => ?_) (Nat.le_succ _)
        simp only [] at e
        cases hd : decide (s = x.Space) with
        | true => rw [hd, cond_true] at e; cases e; exact .inr hn
        | false => rw [hd, cond_false] at e; exact .inl e
  · unfold qQn
    cases jWr x.Person with
    | false => exact jKk
    | true =>
      cases jPu p x.Space with
      | false => exact jKk
      | true =>
        cases hi : jMf A x.Person with
        | true => exact jKk
        | false =>
          simp only [Bool.not_true, cond_false]
          cases ((atS p x.Space).Enclosed && !jFs p A x.Space) with
          | true => exact jKk
          | false =>
            rw [cond_false]
            cases (!(jKg p A (fun y => decide (y.Kind = 3) && decide (jUt p y.Space x.Space ≤ 1))).isEmpty) with
            | true => exact jKk
            | false => exact jM7 rfl rfl rfl (fun hpp => jSm hi hpp) (fun _ s t e => .inl e) (Nat.le_of_eq qVf)
  · unfold qJp
    cases jWr x.Person with
    | false => exact jKk
    | true =>
      cases jMf A x.Person with
      | false => exact jKk
      | true => exact jM7 rfl rfl rfl (fun hpp => hpp.filter _) (fun _ s t e => .inl e) (Nat.le_succ_of_le (List.length_filter_le _ _))
  · unfold qJ4
    cases jPu p x.Space with
    | false => exact jKk
    | true =>
      simp only [Bool.not_true, cond_false]
      have hs : ∀ s, stA { A with es := fun s => bif jUs p s && decide (stA A s = 2) && (!decide ((atP p s).Kind = 5) && decide (jUt p (atP p s).Space x.Space ≤ 1)) then { A.es s with state := 3 } else A.es s } s = stA A s ∨ (stA { A with es := fun s => bif jUs p s && decide (stA A s = 2) && (!decide ((atP p s).Kind = 5) && decide (jUt p (atP p s).Space x.Space ≤ 1)) then { A.es s with state := 3 } else A.es s } s = 3 ∧ stA A s = 2) := by
        intro s
        unfold stA
        simp only []
        cases jUs p s with
        | false => exact .inl rfl
        | true =>
          by_cases h2 : (A.es s).state = 2
          · rw [dT h2]
            cases (!decide ((atP p s).Kind = 5) && decide (jUt p (atP p s).Space x.Space ≤ 1)) with
            | false => exact .inl rfl
            | true => exact .inr ⟨rfl, h2⟩
          · rw [dF h2]; exact .inl rfl
      refine ⟨fun h => absurd rfl h, fun d hd => ?_, rfl, rfl, fun s h4 => ?_, fun s h1 h2 => ?_⟩
      · refine hd.snoc.le (fun s => (hs s).imp id fun h => by show _ ∧ _ ∧ _; rw [show stA (jTn _).1 s = 3 from h.1]; decide) (fun s => ?_) ⟨Int.le_refl _, hd.tm.2⟩ hd.pp (fun s t e => .inl e) hd.snoc.pl
        show (bif _ then ({ A.es s with state := 3 } : jJq) else A.es s).to_ = _
        cases (jUs p s && decide (stA A s = 2) && (!decide ((atP p s).Kind = 5) && decide (jUt p (atP p s).Space x.Space ≤ 1))) <;> rfl
      · rcases hs s with h | h
        · exact h
        · omega
      · rcases hs s with h | h
        · exact absurd (h.symm.trans h1) h2
        · exact absurd h.2 h2
  · refine acts (by decide) fun hh hm h4 => ?_
    unfold jS8
    cases jWr x.Person with
    | false => exact jKk
    | true =>
      cases (decide (x.To ≤ (A.es x.Name).to_) || decide (1000000 < x.To)) with
      | true => exact jKk
      | false =>
        have hm' : stA A x.Name = 1 ∨ stA A x.Name = 2 ∨ stA A x.Name = 3 := by simpa using hm
        refine step_up h4 ⟨?_, ?_⟩ (fun d hd e y hy hn => ?_) (.inr ⟨h, rfl, rfl⟩) (fun e hne => absurd e hne)
        · show 0 ≤ stA A x.Name; omega
        · show stA A x.Name ≤ 6; omega
        · have e' : stA A x.Name = 2 := e
          rw [← hn] at e'
          exact ⟨hd.fr y hy e', fun z hz e2 => hd.ex y hy z hz e' e2⟩
theorem inv_do {p : GPermitPlan} (hp : OkP p) {A : AO} {x : GEvent} (h : qZj p A) : qZj p (doA p A x).1 ∧ A.now ≤ (doA p A x).1.now ∧ (∀ s, stA A s ≥ 4 → stA (doA p A x).1 s = stA A s) ∧ (∀ s, stA (doA p A x).1 s = 2 → stA A s ≠ 2 → (x.Op = 2 ∨ x.Op = 4) ∧ x.Name = s ∧ (doA p A x).2.2 = 0) := by
  unfold doA
  by_cases hr : x.Op < 0 ∨ 12 ≤ x.Op ∨ x.At < 0 ∨ 1000000 < x.At
  · have hr' : (decide (x.Op < 0) || decide (12 ≤ x.Op) || decide (x.At < 0) || decide (1000000 < x.At)) = true := by simpa [or_assoc] using hr
    rw [hr']
    exact ⟨h, Int.le_refl _, fun _ _ => rfl, fun s h1 h2 => absurd h1 h2⟩
  · have hr' : (decide (x.Op < 0) || decide (12 ≤ x.Op) || decide (x.At < 0) || decide (1000000 < x.At)) = false := by simp; omega
    rw [hr', cond_false]
    by_cases ho : x.At < A.now
    · rw [dT ho]; exact ⟨h, Int.le_refl _, fun _ _ => rfl, fun s h1 h2 => absurd h1 h2⟩
    rw [dF ho, cond_false]
    have hw : WA p A.done { A with now := x.At } := h.w.le (fun s => .inl rfl) (fun _ => rfl) ⟨by show A.now ≤ x.At; omega, by show x.At ≤ 1000000; omega⟩ h.w.pp (fun s t e => .inl e) h.w.pl
    have hi := jLa hp hw
    have hset : ∀ s, stA (jZf p { A with now := x.At }) s = stA A s ∨ ((stA (jZf p { A with now := x.At }) s = 6 ∨ stA (jZf p { A with now := x.At }) s = 3) ∧ stA A s ≤ 3) := fun s => jM2 (p := p) (A := { A with now := x.At }) (s := s)
    obtain ⟨s1, s2, s3, s4, s5, s6⟩ := jTd hp (A := jZf p { A with now := x.At }) (x := x) (by omega) (by omega)
    generalize hR : qWy p (jZf p { A with now := x.At }) x = R at s1 s2 s3 s4 s5 s6
    simp only []
    by_cases h0 : R.2.2 = 0
    · rw [dT h0, cond_true]
      have hw2 := s2 _ hi.w
      refine ⟨jLa hp (d := A.done ++ [x]) hw2, ?_, fun s hs => ?_, fun s h1 h2 => ?_⟩
      · show A.now ≤ R.1.now
        rw [s3]; show A.now ≤ x.At; omega
      · show stA (jZf p R.1) s = stA A s
        have e1 : stA (jZf p { A with now := x.At }) s = stA A s := by
          rcases hset s with e | ⟨_, e⟩
          · exact e
          · omega
        have e2 := s5 s (by omega)
        rcases jM2 (p := p) (A := R.1) (s := s) with e | ⟨_, e⟩ <;> omega
      · have h1' : stA (jZf p R.1) s = 2 := h1
        have e2 : stA R.1 s = 2 := by
          rcases jM2 (p := p) (A := R.1) (s := s) with e | ⟨e, _⟩ <;> omega
        have e3 : stA (jZf p { A with now := x.At }) s ≠ 2 := by
          rcases hset s with e | ⟨e, _⟩ <;> omega
        obtain ⟨a, b, c⟩ := s6 s e2 e3
        exact ⟨a, b, rfl⟩
    · rw [dF h0, cond_false]
      have hB := s1 h0
      rw [hB]
      refine ⟨hi, ?_, fun s hs => ?_, fun s h1 h2 => ?_⟩
      · show A.now ≤ x.At; omega
      · rcases hset s with e | ⟨_, e⟩
        · exact e
        · omega
      · exfalso
        rcases hset s with e | ⟨e, _⟩ <;> omega
theorem qUf {p : GPermitPlan} (hp : OkP p) : qZj p (newA p) := by
 refine jLa hp (d := []) (A := ⟨0, fun s => bif jUs p s then ⟨0, [], (atP p s).To⟩ else ⟨0, [], 0⟩, fun _ => none, [], []⟩) ⟨fun s => ?_, fun x hx e => ?_, fun x hx y hy e => ?_, (by simp), fun x hx => ?_, List.Pairwise.nil, (fun s t e => by cases e), Nat.le_refl _⟩
 ·unfold stA; simp only []; cases jUs p s <;> simp
 ·exfalso; unfold stA at e; simp only [] at e; cases hh : jUs p x.Name <;> rw [hh] at e <;> cases e
 ·exfalso; unfold stA at e; simp only [] at e; cases hh : jUs p x.Name <;> rw [hh] at e <;> cases e
 ·refine .inl ?_
  simp only []
  rw [jBe.2 ⟨x, hx, rfl⟩, cond_true, hp.atP_at hx]
end Go.KB
namespace Go.KB
set_option linter.unusedVariables false
theorem jMc {S O : Type} {n N : Nat} {f : S → Option (S ⊕ O)} (I : Nat → S → Prop) (Q : O → Prop) {s0 : S} (h0 : I 0 s0) (h : ∀ i s, i < n → I i s → ∃ s', f s = some (.inl s') ∧ I (i + 1) s') (he : ∀ s, I n s → ∃ o, f s = some (.inr o) ∧ Q o) (hN : n < N) : ∃ o, jXz f N s0 = some o ∧ Q o := by
 have key : ∀ k i s, i + k = n → I i s → ∀ M, k < M → ∃ o, jXz f M s = some o ∧ Q o := by
  intro k
  induction k with
  | zero =>
   intro i s hi hs M hM
   obtain ⟨M, rfl⟩ : ∃ m, M = m + 1 := ⟨M - 1, by omega⟩
   have : i = n := by omega
   subst this
   obtain ⟨o, h1, h2⟩ := he s hs
   exact ⟨o, by simp only [jXz, h1], h2⟩
  | succ k ih =>
   intro i s hi hs M hM
   obtain ⟨M, rfl⟩ : ∃ m, M = m + 1 := ⟨M - 1, by omega⟩
   obtain ⟨s', h1, h2⟩ := h i s (by omega) hs
   simp only [jXz, h1]
   exact ih (i + 1) s' (by omega) h2 M (by omega)
 exact key n 0 s0 (by omega) h0 N (by omega)
theorem jM1 {α β : Type} [DecidableEq α] (x k : α) (y : β) : ∀ m : List (α × β), jKc (jHb m x y) k = (decide (k = x) || jKc m k)
 | [] => by simp [jKc, jHb]
 | q :: r => by
  unfold jHb
  by_cases h : x = q.1
  ·rw [dT h, cond_true]; unfold jKc; rw [← h]; cases decide (k = x) <;> simp
  ·rw [dF h, cond_false]; unfold jKc; rw [jM1 x k y r]
   cases decide (k = q.1) <;> cases decide (k = x) <;> rfl
structure RSt (p : GPermitPlan) (es : Str → jJq) (st : List (Str × jJq)) : Prop where
 get : ∀ s, jUs p s = true → jX9 (⟨0, [], 0⟩ : jJq) st s = es s
 has : ∀ s, jKc st s = jUs p s
theorem RSt.set {p : GPermitPlan} {es : Str → jJq} {st : List (Str × jJq)} (h : RSt p es st) {n : Str} (hn : jUs p n = true) (e : jJq) : RSt p (fun s => bif decide (s = n) then e else es s) (jHb st n e) := by
 refine ⟨fun s hs => ?_, fun s => ?_⟩
 ·rw [jLk]
  by_cases he : s = n
  ·rw [if_pos he, dT he]; rfl
  ·rw [if_neg he, dF he]; exact h.get s hs
 ·rw [jM1, h.has]
  by_cases he : s = n
  ·rw [dT he, he, hn]; rfl
  ·rw [dF he]; rfl
theorem RSt.congr {p : GPermitPlan} {es es' : Str → jJq} {st : List (Str × jJq)} (h : RSt p es st) (he : ∀ s, jUs p s = true → es s = es' s) : RSt p es' st := ⟨fun s hs => by rw [h.get s hs, he s hs], h.has⟩
structure RelB (p : GPermitPlan) (A : AO) (g : jJx) (air : List (Str × jJv)) : Prop where
 plan : g.plan = p
 now : g.now = A.now
 hair : ∀ s, jKc air s = (A.ts s).isSome
 airg : ∀ s t, A.ts s = some t → jX9 (⟨0, 0, 0⟩ : jJv) air s = t
structure RelA (p : GPermitPlan) (A : AO) (g : jJx) (st : List (Str × jJq)) (air : List (Str × jJv)) (pe : List (Str × Str)) : Prop where
 b : RelB p A g air
 st : RSt p A.es st
 pe : pe.Perm A.pp
 done : g.done = A.done
structure BdA (A : AO) : Prop where
 tm : 0 ≤ A.now ∧ A.now ≤ 1000000
 st : ∀ s, 0 ≤ stA A s ∧ stA A s ≤ 6
 tt : ∀ s t, A.ts s = some t → 0 ≤ t.at_ ∧ t.at_ ≤ 1000000
 pl : A.pp.length < 1000000
theorem WA.bd {p : GPermitPlan} {d : List GEvent} {A : AO} (h : WA p d A) (hd : d.length < 1000000) : BdA A := ⟨h.tm, h.st, h.tt, Nat.lt_of_le_of_lt h.pl hd⟩
section
variable {N : Nat} {p : GPermitPlan} {A : AO} {g : jJx} {st : List (Str × jJq)} {air : List (Str × jJv)} {pe : List (Str × Str)} (hp : SmP p) (hN : 1000000 ≤ N) (h : RelB p A g air) (b : BdA A)
include hp hN h b
theorem qK0 {s : Str} : jYr N g st air pe s = some (qUu p A s, qUw p A s) := by
 have hs := hp.s
 unfold jYr qUu qUw
 rw [h.plan, jH8 (by omega) hN, bS, h.hair s, h.now]
 show (bif !(atS p s).Enclosed then _ else _) = _
 cases (atS p s).Enclosed with
 | false => rfl
 | true =>
  simp only [Bool.not_true, cond_false]
  cases ht : A.ts s with
  | none => rfl
  | some t =>
   have h1 := b.tt s t ht
   have h2 := b.tm
   rw [h.airg s t ht, w64i (by omega) (by omega)]
   simp only [Option.isSome_some, Bool.true_and, jDq, jD0]
theorem jRm {x : jJu} {s : Str} : jVv N g st air pe s x = some (qXw p A x s) := by
 unfold jVv qXw
 rw [qK0 hp hN h b, bS, jGl]
 cases decide (x.Kind = 0) <;> rfl
theorem jSy {x : jJu} : jVp N g st air pe x = some (jSj p A x) := by
 have hl := qYv (x := x) hp
 unfold jVp
 rw [h.plan, qYg hp hN, bS]
 have hi : jQt N g st air pe (jRg p x) x = some (ixI (qXw p A x) (jRg p x)) := by
  unfold jQt
  refine jHr (fun i hi => ?_) ?_ (by omega)
  ·unfold jQn
   rw [jJ9, dT (by omega), cond_true, jVx hi, bS, jRm hp hN h b, bS, jBc (by omega)]
  ·unfold jQn
   rw [jJ9, dF (by omega), cond_false]
 have hd : jQr N g st air pe (jRg p x) x = some (jSj p A x) := by
  unfold jQr
  rw [hi, bS]
  refine del_eq (g := qXw p A x) (fun xs i j hj hij hj2 hm => ?_) (fun xs i => ?_) (by omega) hN
  ·unfold jQm
   simp only []
   rw [jJ9, dT (by omega), cond_true, jVx hj, bS, jRm hp hN h b, bS, jBc (by omega), jBc (by omega), jVx (by omega), bS, Int.toNat_natCast]
  ·unfold jQm
   simp only []
   rw [jJ9, dF (by omega), cond_false]
 rw [hd]; rfl
end
theorem jP1 {N : Nat} {p : GPermitPlan} {A : AO} {g : jJx} {st : List (Str × jJq)} {air : List (Str × jJv)} {pe : List (Str × Str)} (hN : 1000000 ≤ N) (hst : RSt p A.es st) {n : Str} {l : List Int} (hn : jUs p n = true) (hl : l.length < 100) : jQf N g st air pe n l = some (l.contains (stA A n)) := by
 unfold jQf
 rw [jTh (by omega) hN, bS, hst.get n hn]; rfl
theorem jP3 {N : Nat} {p : GPermitPlan} {A : AO} {g : jJx} {st : List (Str × jJq)} {air : List (Str × jJv)} {pe : List (Str × Str)} (hp : SmP p) (hN : 1000000 ≤ N) (hst : RSt p A.es st) {x : jJu} (hx : x.Locks.length < 1000) (hlk : ∀ l ∈ x.Locks, jUs p l = true) : jZ0 N g st air pe x = some (qXv A x) := by
 have hlim : lim ≥ 1000000 := by decide
 unfold jZ0
 have hc : jQa N x.Locks = some x.Locks := by
  unfold jQa
  rw [qXr (by simp only [List.length_nil]; omega)]; rfl
 rw [hc, bS]
 have h1 : ∀ s, jZu N g st air pe s = some (decide (stA A s = 2)) ∨ ¬ jUs p s = true := by
  intro s
  by_cases hs : jUs p s = true
  ·left
   unfold jZu
   rw [jP1 hN hst hs (by decide), bS]
   congr 1
   rw [Bool.eq_iff_iff]; simp
  ·exact .inr hs
 have h2 : ∀ s ∈ x.Locks, jZu N g st air pe s = some (decide (stA A s = 2)) := fun s hs => (h1 s).elim id fun hn => absurd (hlk s hs) hn
 have hi : jQp N g st air pe x.Locks = some (ixI (fun s => decide (stA A s = 2)) x.Locks) := by
  unfold jQp
  refine jHr (fun i hi => ?_) ?_ (by omega)
  ·unfold jQl
   rw [jJ9, dT (by omega), cond_true, jVx hi, bS, h2 _ (List.getElem_mem hi), bS, jBc (by omega)]
  ·unfold jQl
   rw [jJ9, dF (by omega), cond_false]
 unfold jQ7
 rw [hi, bS, del_eq (g := fun s => decide (stA A s = 2)) (f := jQv N g st air pe) (fun xs i j hj hij hj2 hm => ?_) (fun xs i => ?_) (by omega) hN]
 ·rfl
 ·unfold jQv
  simp only []
  rw [jJ9, dT (by omega), cond_true, jVx hj, bS, h2 _ hm, bS, jBc (by omega), jBc (by omega), jVx (by omega), bS, Int.toNat_natCast]
 ·unfold jQv
  simp only []
  rw [jJ9, dF (by omega), cond_false]
def amP (p : GPermitPlan) (i : Nat) (s : Str) : Bool := (p.Permits.take i).any (isP s)
theorem jTq {p : GPermitPlan} {s : Str} : amP p p.Permits.length s = jUs p s := by unfold amP jUs; rw [List.take_length]
theorem jPz {p : GPermitPlan} {i : Nat} (hi : i < p.Permits.length) {s : Str} : amP p (i + 1) s = (amP p i s || decide (p.Permits[i].Name = s)) := by
 unfold amP; rw [List.take_succ_eq_append_getElem hi, List.any_append]; simp [isP]
theorem qZq {p : GPermitPlan} (ho : OkP p) {i : Nat} (hi : i < p.Permits.length) : amP p i p.Permits[i].Name = false := by
 unfold amP
 rw [Bool.eq_false_iff]
 intro hx
 rw [List.any_eq_true] at hx
 obtain ⟨y, hy, hg⟩ := hx
 obtain ⟨j, hj, rfl⟩ := List.getElem_of_mem hy
 rw [List.length_take] at hj
 rw [List.getElem_take] at hg
 simp only [isP, decide_eq_true_eq] at hg
 have := ho.pd j i (by omega) hi (by rw [jTf (by omega), jTf hi, hg])
 omega
theorem jNc {p : GPermitPlan} {i : Nat} (hi : i < p.Permits.length) : jUs p p.Permits[i].Name = true := jBe.2 ⟨_, List.getElem_mem hi, rfl⟩
theorem qYp {N : Nat} {p : GPermitPlan} {A : AO} {g : jJx} {st : List (Str × jJq)} {air : List (Str × jJv)} {pe : List (Str × Str)} (hp : SmP p) (ho : OkP p) (hN : 1000000 ≤ N) (h : RelB p A g air) (hst : RSt p A.es st) (b : BdA A) : ∃ st', jXz (jVk N g air pe) N (0, st) = some st' ∧ RSt p (jCq p A).es st' := by
 have hm := hp.m
 refine jMc (n := p.Permits.length) (fun i s => s.1 = (i : Int) ∧ RSt p (fun s => bif amP p i s then qWv A.now (A.es s) else A.es s) s.2) _ ⟨rfl, hst.congr fun s _ => by unfold amP; simp⟩ (fun i s hi hs => ?_) (fun s hs => ?_) (by omega)
 ·obtain ⟨s1, st'⟩ := s
  obtain ⟨rfl, hr⟩ := hs
  simp only [] at hr
  have hn := jNc hi
  have he : (bif amP p i p.Permits[i].Name then qWv A.now (A.es p.Permits[i].Name) else A.es p.Permits[i].Name) = A.es p.Permits[i].Name := by rw [qZq ho hi]; rfl
  have hg := hr.get _ hn
  rw [he] at hg
  have hst := b.st p.Permits[i].Name
  unfold stA at hst
  have hc : ([0, 1, 2, 3] : List Int).contains (A.es p.Permits[i].Name).state = decide ((A.es p.Permits[i].Name).state ≤ 3) := by
   rw [Bool.eq_iff_iff]; simp; omega
  have hi' : jQf N g st' air pe p.Permits[i].Name [0, 1, 2, 3] = some (decide ((A.es p.Permits[i].Name).state ≤ 3)) := by
   unfold jQf
   rw [jTh (by decide) hN, bS, hg, hc]
  have hnext : ∀ (e : jJq), e = qWv A.now (A.es p.Permits[i].Name) → ∀ s, jUs p s = true → (bif decide (s = p.Permits[i].Name) then e else (bif amP p i s then qWv A.now (A.es s) else A.es s)) = (bif amP p (i + 1) s then qWv A.now (A.es s) else A.es s) := by
   intro e hee s _
   rw [jPz hi]
   by_cases hs : s = p.Permits[i].Name
   ·subst hs; rw [dT rfl, Bool.or_true, cond_true, cond_true, hee]
   ·rw [dF hs, dF (fun x => hs x.symm), Bool.or_false]; rfl
  unfold jVk
  simp only []
  rw [h.plan, jJ9, dT (by omega), cond_true, jVx hi, bS, hi', bS, hg, jDq, h.now, jBc (by omega)]
  cases hx : (decide ((A.es p.Permits[i].Name).state ≤ 3) && decide ((A.es p.Permits[i].Name).to_ ≤ A.now)) with
  | true =>
   refine ⟨_, rfl, rfl, ?_⟩
   rw [hg]
   exact (hr.set hn _).congr (hnext _ (by unfold qWv; rw [hx]; rfl))
  | false =>
   refine ⟨_, rfl, rfl, ?_⟩
   refine hr.congr fun s hs => ?_
   rw [← hnext _ rfl s hs]
   by_cases he2 : s = p.Permits[i].Name
   ·subst he2; rw [dT rfl, cond_true, he]; unfold qWv; rw [hx]; rfl
   ·rw [dF he2]; rfl
 ·obtain ⟨s1, st'⟩ := s
  obtain ⟨rfl, hr⟩ := hs
  unfold jVk
  simp only []
  rw [h.plan, jJ9, dF (by omega), cond_false]
  exact ⟨_, rfl, hr.congr fun s _ => by rw [jTq]; rfl⟩
theorem qUn {p : GPermitPlan} (ho : OkP p) {B : AO} {l : Str} (hl : jUs p l = true) (hk : (atP p l).Kind = 5) : (jSz p B).es l = B.es l := by
 show (bif jUs p l && decide (stA B l = 2) && jN4 p B (atP p l) then ({ B.es l with state := 3 } : jJq) else B.es l) = _
 rw [qJm ho (jBa hl).1 hk, Bool.and_false]; rfl
theorem gt0 {α : Type} {l : List α} : jJy .gtr (List.length l : Int) 0 = !l.isEmpty := by
 rw [jG6]
 cases l with
 | nil => rfl
 | cons x r => simp
theorem qJt {N : Nat} {p : GPermitPlan} {B : AO} {g : jJx} {st : List (Str × jJq)} {air : List (Str × jJv)} {pe : List (Str × Str)} (hp : SmP p) (ho : OkP p) (hN : 1000000 ≤ N) (h : RelB p B g air) (hst : RSt p B.es st) (b : BdA B) : ∃ o : Bool × List (Str × jJq), jXz (jZl N g air pe) N (false, 0, st) = some o ∧ RSt p (jSz p B).es o.2 ∧ o.1 = p.Permits.any (fun x => decide (stA B x.Name = 2) && jN4 p B x) := by
 have hm := hp.m
 refine jMc (n := p.Permits.length) (fun i s => s.2.1 = (i : Int) ∧ RSt p (fun s => bif amP p i s then (jSz p B).es s else B.es s) s.2.2 ∧ s.1 = (p.Permits.take i).any (fun x => decide (stA B x.Name = 2) && jN4 p B x)) _ ⟨rfl, hst.congr fun s _ => by unfold amP; simp, by simp⟩ (fun i s hi hs => ?_) (fun s hs => ?_) (by omega)
 ·obtain ⟨fl, s1, st'⟩ := s
  obtain ⟨rfl, hr, rfl⟩ := hs
  simp only [] at hr
  have hx := List.getElem_mem hi
  have hn := jNc hi
  have he : (bif amP p i p.Permits[i].Name then (jSz p B).es p.Permits[i].Name else B.es p.Permits[i].Name) = B.es p.Permits[i].Name := by rw [qZq ho hi]; rfl
  have hg := hr.get _ hn
  rw [he] at hg
  have hi' : jQf N g st' air pe p.Permits[i].Name [2] = some (decide (stA B p.Permits[i].Name = 2)) := by
   unfold jQf
   rw [jTh (by decide) hN, bS, hg]
   congr 1
   unfold stA
   rw [Bool.eq_iff_iff]; simp
  have hlk : jZ0 N g st' air pe p.Permits[i] = some (qXv B p.Permits[i]) := by
   rw [jP3 (A := { B with es := fun s => bif amP p i s then (jSz p B).es s else B.es s }) hp hN hr (hp.l _ hx) (fun l hl => (ho.lk _ hx l hl).1)]
   congr 1
   unfold qXv
   refine List.filter_congr fun l hl => ?_
   have := ho.lk _ hx l hl
   have e : stA { B with es := fun s => bif amP p i s then (jSz p B).es s else B.es s } l = stA B l := by
    show (bif amP p i l then (jSz p B).es l else B.es l).state = _
    rw [qUn ho this.1 this.2.1]
    cases amP p i l <;> rfl
   rw [e]
  have hnext : ∀ (e : jJq), e = (jSz p B).es p.Permits[i].Name → ∀ s, jUs p s = true → (bif decide (s = p.Permits[i].Name) then e else (bif amP p i s then (jSz p B).es s else B.es s)) = (bif amP p (i + 1) s then (jSz p B).es s else B.es s) := by
   intro e hee s _
   rw [jPz hi]
   by_cases hs : s = p.Permits[i].Name
   ·subst hs; rw [dT rfl, Bool.or_true, cond_true, cond_true, hee]
   ·rw [dF hs, dF (fun x => hs x.symm), Bool.or_false]; rfl
  have hsus : (jSz p B).es p.Permits[i].Name = (bif decide (stA B p.Permits[i].Name = 2) && jN4 p B p.Permits[i] then ({ B.es p.Permits[i].Name with state := 3 } : jJq) else B.es p.Permits[i].Name) := by
   show (bif jUs p p.Permits[i].Name && decide (stA B p.Permits[i].Name = 2) && jN4 p B (atP p p.Permits[i].Name) then ({ B.es p.Permits[i].Name with state := 3 } : jJq) else B.es p.Permits[i].Name) = _
   rw [hn, ho.atP_at hx, Bool.true_and]
  have hany : (p.Permits.take (i + 1)).any (fun x => decide (stA B x.Name = 2) && jN4 p B x) = ((p.Permits.take i).any (fun x => decide (stA B x.Name = 2) && jN4 p B x) || (decide (stA B p.Permits[i].Name = 2) && jN4 p B p.Permits[i])) := by
   rw [List.take_succ_eq_append_getElem hi, List.any_append]; simp
  have hsame : (decide (stA B p.Permits[i].Name = 2) && jN4 p B p.Permits[i]) = false → RSt p (fun s => bif amP p (i + 1) s then (jSz p B).es s else B.es s) st' := fun hb => hr.congr fun s hs => by
   rw [← hnext _ rfl s hs]
   by_cases he2 : s = p.Permits[i].Name
   ·subst he2; rw [dT rfl, cond_true, he, hsus, hb]; rfl
   ·rw [dF he2]; rfl
  have hset : (decide (stA B p.Permits[i].Name = 2) && jN4 p B p.Permits[i]) = true → RSt p (fun s => bif amP p (i + 1) s then (jSz p B).es s else B.es s) (jHb st' p.Permits[i].Name ({ B.es p.Permits[i].Name with state := 3 } : jJq)) := fun hb =>
   (hr.set hn _).congr (hnext _ (by rw [hsus, hb]; rfl))
  unfold jZl
  simp only []
  rw [h.plan, jJ9, dT (by omega), cond_true, jVx hi, bS, hi', bS, jBc (by omega), hany]
  by_cases h2 : stA B p.Permits[i].Name = 2
  ·rw [dT h2] at hsame hset ⊢
   simp only [cond_true, Bool.true_and] at hsame hset ⊢
   rw [jSy hp hN h b, bS, gt0]
   unfold jN4 at hsame hset ⊢
   cases hla : (jSj p B p.Permits[i]).isEmpty with
   | false =>
    rw [hla] at hset
    simp only [Bool.not_false, Bool.true_or, Bool.or_true, Bool.not_true, cond_false, cond_true, bS] at hset ⊢
    refine ⟨_, rfl, rfl, ?_, rfl⟩
    rw [hg]; exact hset trivial
   | true =>
    rw [hla] at hset hsame
    simp only [Bool.not_false, Bool.false_or, Bool.not_true, cond_true, hlk, bS, gt0] at hset hsame ⊢
    cases hu : (qXv B p.Permits[i]).isEmpty with
    | false =>
     rw [hu] at hset
     refine ⟨_, rfl, rfl, ?_, by simp⟩
     rw [hg]; exact hset rfl
    | true =>
     rw [hu] at hsame
     exact ⟨_, rfl, rfl, hsame rfl, by simp⟩
  ·rw [dF h2] at hsame ⊢
   exact ⟨_, rfl, rfl, hsame rfl, by simp⟩
 ·obtain ⟨fl, s1, st'⟩ := s
  obtain ⟨rfl, hr, rfl⟩ := hs
  unfold jZl
  simp only []
  rw [h.plan, jJ9, dF (by omega), cond_false]
  exact ⟨_, rfl, hr.congr fun s hs => by rw [jTq, hs]; rfl, by rw [List.take_length]⟩
theorem BdA.exp {p : GPermitPlan} {A : AO} (b : BdA A) : BdA (jCq p A) := ⟨b.tm, fun s => by
 rcases qZ7 (p := p) (A := A) (s := s) with e | ⟨e, _⟩ <;> rw [e]
 ·exact b.st s
 ·decide, b.tt, b.pl⟩
theorem BdA.sus {p : GPermitPlan} {A : AO} (b : BdA A) : BdA (jSz p A) := ⟨b.tm, fun s => by
 rcases jCe (p := p) (A := A) (s := s) with ⟨e, _⟩ | ⟨e, _⟩ <;> rw [e]
 ·exact b.st s
 ·decide, b.tt, b.pl⟩
theorem BdA.settle {p : GPermitPlan} {A : AO} (b : BdA A) : BdA (jZf p A) := b.exp.sus
theorem jPe {N : Nat} {p : GPermitPlan} {A : AO} {g : jJx} {st : List (Str × jJq)} {air : List (Str × jJv)} {pe : List (Str × Str)} (hp : SmP p) (ho : OkP p) (hN : 1000000 ≤ N) (h : RelB p A g air) (hst : RSt p A.es st) (b : BdA A) : ∃ st', jZs N g st air pe = some st' ∧ RSt p (jZf p A).es st' := by
 unfold jZs
 obtain ⟨s1, h1, r1⟩ := qYp (pe := pe) hp ho hN h hst b
 rw [h1, bS]
 have hE : RelB p (jCq p A) g air := ⟨h.plan, h.now, h.hair, h.airg⟩
 have hS : RelB p (jZf p A) g air := ⟨h.plan, h.now, h.hair, h.airg⟩
 obtain ⟨⟨f2, s2⟩, h2, r2, e2⟩ := qJt (pe := pe) hp ho hN hE r1 b.exp
 obtain ⟨⟨f3, s3⟩, h3, r3, e3⟩ := qJt (pe := pe) hp ho hN hS r2 b.settle
 have e3' : f3 = false := by
  rw [show f3 = _ from e3, Bool.eq_false_iff]
  intro hx
  rw [List.any_eq_true] at hx
  obtain ⟨x, hx, hb⟩ := hx
  rw [Bool.and_eq_true, decide_eq_true_eq] at hb
  rw [jMg ho hx hb.1] at hb
  cases hb.2
 subst e3'
 obtain ⟨M, rfl⟩ : ∃ M, N = M + 3 := ⟨N - 3, by omega⟩
 have step : ∀ (st : List (Str × jJq)) (o : Bool × List (Str × jJq)), jXz (jZl (M + 3) g air pe) (M + 3) (false, 0, st) = some o → jVq (M + 3) g air pe (true, st) = some (.inl o) := by
  intro st o ho
  unfold jVq
  rw [cond_true, ho]; rfl
 have stop : ∀ st : List (Str × jJq), jVq (M + 3) g air pe (false, st) = some (.inr st) := fun st => rfl
 cases f2 with
 | false =>
  refine ⟨s2, ?_, r2⟩
  rw [show M + 3 = (M + 2) + 1 from rfl]
  simp only [jXz, step _ _ h2, stop]; rfl
 | true =>
  refine ⟨s3, ?_, r3.congr fun s hs => ?_⟩
  ·simp only [jXz, step _ _ h2, step _ _ h3, stop]; rfl
  ·show (bif jUs p s && decide (stA (jZf p A) s = 2) && jN4 p (jZf p A) (atP p s) then ({ (jZf p A).es s with state := 3 } : jJq) else (jZf p A).es s) = _
   by_cases h2 : stA (jZf p A) s = 2
   ·obtain ⟨hm, hnm⟩ := jBa hs
    rw [jMg ho hm (by rw [hnm]; exact h2), Bool.and_false]; rfl
   ·rw [dF h2, Bool.and_false, Bool.false_and]; rfl
end Go.KB
namespace Go.KB
set_option linter.unusedVariables false
theorem qV8 {N : Nat} {l : List jJr} {f : jJr → Option Bool} {g : jJr → Bool} (hf : ∀ y, f y = some (g y)) (hl : l.length < 1000000) (hN : 1000000 ≤ N) : jXu N l f = some (ixI g l) := by
 unfold jXu
 refine jHr (fun i hi => ?_) ?_ (by omega)
 ·unfold jQ5
  rw [jJ9, dT (by omega), cond_true, jVx hi, bS, hf, bS, jBc (by omega)]
 ·unfold jQ5
  rw [jJ9, dF (by omega), cond_false]
theorem qY7 {α : Type} {g : α → Bool} {l : List α} : jJy .geq (ixI g l) 0 = l.any g := by
 have := jM5 (g := g) (l := l)
 rw [jD0]
 cases h2 : l.any g with
 | true => rw [h2] at this; simp at this; rw [dT (by omega)]
 | false => rw [h2] at this; simp at this; rw [dF (by omega)]
theorem jMz {N : Nat} {p : GPermitPlan} {x y : jJu} (hp : SmP p) (hN : 1000000 ≤ N) : jY1 N p x y = some (jHs p x y) := by
 have hx := hp.x
 unfold jY1 jHs
 rw [jUa, jRx hp hN]
 cases decide (x.Name = y.Name) with
 | true => rfl
 | false =>
  rw [cond_false, cond_false, bS]
  unfold jX1
  rw [qV8 (g := fun e => exE e (jUt p x.Space y.Space) x.Kind y.Kind) (fun e => by unfold jY0 exE; simp only [jDq, jGl]) (by omega) hN, bS, qY7]; rfl
theorem cloneS {N : Nat} {l : List jJ5} (h : l.length < 1000) : jXf N l = some l := by
 have hlim : lim ≥ 1000000 := by decide
 unfold jXf; rw [qXr (by simp only [List.length_nil]; omega)]; rfl
theorem cloneP {N : Nat} {l : List jJu} (h : l.length < 1000) : jQ9 N l = some l := by
 have hlim : lim ≥ 1000000 := by decide
 unfold jQ9; rw [qXr (by simp only [List.length_nil]; omega)]; rfl
theorem cloneE {N : Nat} {l : List jJr} (h : l.length < 1000) : jXt N l = some l := by
 have hlim : lim ≥ 1000000 := by decide
 unfold jXt; rw [qXr (by simp only [List.length_nil]; omega)]; rfl
theorem qKf {N : Nat} {l : List Str} (h : l.length < 1000) : jQa N l = some l := by
 have hlim : lim ≥ 1000000 := by decide
 unfold jQa; rw [qXr (by simp only [List.length_nil]; omega)]; rfl
theorem qQm {α : Type} {l : List α} {i : Nat} (h : i < l.length) : l.set i l[i] = l := List.set_getElem_self h
theorem qVm {N : Nat} {p : GPermitPlan} (hp : SmP p) (hN : 1000000 ≤ N) : jGr N p = some p := by
 have h1 := hp.s
 have h2 := hp.x
 have h3 := hp.m
 unfold jGr
 rw [cloneS h1, cloneE h2, cloneP h3]
 simp only [bS]
 have e2 : jXz (jW5 N p.Spaces) N (0, p.Spaces) = some p.Spaces := jR0 (f := jW5 N p.Spaces) (n := p.Spaces.length) (fun i => ((i : Int), p.Spaces)) p.Spaces (fun i hi => by
  unfold jW5
  simp only []
  rw [jJ9, dT (by omega), cond_true, jVx hi, bS, qKf (hp.n _ (List.getElem_mem hi)), bS, bS, jBc (by omega), Int.toNat_natCast, qQm hi]) (by
  unfold jW5
  simp only []
  rw [jJ9, dF (by omega), cond_false]) (by omega)
 have e1 : jXz (jYj N p.Permits) N (0, p.Permits) = some p.Permits := jR0 (f := jYj N p.Permits) (n := p.Permits.length) (fun i => ((i : Int), p.Permits)) p.Permits (fun i hi => by
  unfold jYj
  simp only []
  rw [jJ9, dT (by omega), cond_true, jVx hi, bS, qKf (hp.l _ (List.getElem_mem hi)), bS, bS, jBc (by omega), Int.toNat_natCast, qQm hi]) (by
  unfold jYj
  simp only []
  rw [jJ9, dF (by omega), cond_false]) (by omega)
 rw [e2, e1]; rfl
def newE (p : GPermitPlan) : AO := ⟨0, fun s => bif jUs p s then ⟨0, [], (atP p s).To⟩ else ⟨0, [], 0⟩, fun _ => none, [], []⟩
theorem qUm (p : GPermitPlan) : BdA (newE p) := ⟨⟨by show (0 : Int) ≤ 0; omega, by show (0 : Int) ≤ 1000000; omega⟩, fun s => by unfold stA newE; simp only []; cases jUs p s <;> simp, (fun s t e => by cases e), by show 0 < 1000000; omega⟩
theorem qWd {N : Nat} {p : GPermitPlan} (hp : SmP p) (ho : OkP p) (hN : 1000000 ≤ N) : ∃ st, jXz (jWt N p) N (0, ([] : List (Str × jJq))) = some st ∧ RSt p (newE p).es st := by
 have hm := hp.m
 have key : ∃ st, jXz (jWt N p) N (0, ([] : List (Str × jJq))) = some st ∧ (∀ n, amP p p.Permits.length n = true → jX9 (⟨0, [], 0⟩ : jJq) st n = ⟨0, [], (atP p n).To⟩) ∧ ∀ n, jKc st n = amP p p.Permits.length n := by
  refine jMc (N := N) (n := p.Permits.length) (f := jWt N p) (s0 := (0, ([] : List (Str × jJq)))) (fun i s => s.1 = (i : Int) ∧ (∀ n, amP p i n = true → jX9 (⟨0, [], 0⟩ : jJq) s.2 n = ⟨0, [], (atP p n).To⟩) ∧ ∀ n, jKc s.2 n = amP p i n) (fun st => (∀ n, amP p p.Permits.length n = true → jX9 (⟨0, [], 0⟩ : jJq) st n = ⟨0, [], (atP p n).To⟩) ∧ ∀ n, jKc st n = amP p p.Permits.length n) ⟨rfl, fun n h => by unfold amP at h; simp at h, fun n => by unfold amP; simp [jKc]⟩ (fun i s hi hs => ?_) (fun s hs => ?_) (by omega)
  ·obtain ⟨s1, st⟩ := s
   obtain ⟨rfl, h1, h2⟩ := hs
   simp only [] at h1 h2
   refine ⟨_, by unfold jWt; simp only []; rw [jJ9, dT (by omega), cond_true, jVx hi, bS, jBc (by omega)], rfl, fun n hn => ?_, fun n => ?_⟩
   ·simp only []
    rw [jLk]
    by_cases he : n = p.Permits[i].Name
    ·rw [if_pos he, he, ho.atP_at (List.getElem_mem hi)]
    ·rw [if_neg he]
     rw [jPz hi, dF (fun x => he x.symm), Bool.or_false] at hn
     exact h1 n hn
   ·simp only []
    rw [jM1, h2, jPz hi, Bool.or_comm]
    congr 1
    exact decide_eq_decide.2 ⟨Eq.symm, Eq.symm⟩
  ·obtain ⟨s1, st⟩ := s
   obtain ⟨rfl, h1, h2⟩ := hs
   refine ⟨st, ?_, h1, h2⟩
   unfold jWt
   simp only []
   rw [jJ9, dF (by omega), cond_false]
 obtain ⟨st, h1, h2, h3⟩ := key
 exact ⟨st, h1, fun s hs => by rw [h2 s (by rw [jTq]; exact hs)]; show _ = (bif jUs p s then _ else _); rw [hs]; rfl, fun s => by rw [h3, jTq]⟩
theorem New_eq {N : Nat} {p : GPermitPlan} (hp : SmP p) (ho : jYx p = 0) (hN : 1000000 ≤ N) : ∃ st, jK9 N p = some (some ((⟨p, 0, []⟩ : jJx), st, [], []), 0) ∧ RelA p (newA p) (⟨p, 0, []⟩ : jJx) st [] [] := by
 have hk := okP ho
 unfold jK9
 rw [jLh hp hN, ho, bS, jBl, dT rfl, Bool.not_true, cond_false, qVm hp hN, bS]
 obtain ⟨s1, h1, r1⟩ := qWd hp hk hN
 rw [h1, bS]
 have hb : RelB p (newE p) (⟨p, 0, []⟩ : jJx) [] := ⟨rfl, rfl, fun s => rfl, fun s t e => by cases e⟩
 obtain ⟨s2, h2, r2⟩ := jPe (pe := ([] : List (Str × Str))) hp hk hN hb r1 (qUm p)
 rw [h2, bS]
 exact ⟨s2, rfl, ⟨rfl, rfl, fun s => rfl, fun s t e => by cases e⟩, r2, List.Perm.refl _, rfl⟩
end Go.KB
