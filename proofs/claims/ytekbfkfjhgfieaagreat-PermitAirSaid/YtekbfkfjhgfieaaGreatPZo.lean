/- Plain laws of chapter 7: near, exclusion and needs of the reference. Plain laws of chapter 7: which sets of permits are possible. No condition. -/
import Derived.Test.YtekbfkfjhgfieaaGreatPZn
namespace Go.KB
set_option linter.unusedVariables false
theorem qW3 {N : Nat} {p : GPermitPlan} {a : Str} (hp : SmP p) (hN : 1000000 ≤ N) : jU6 N p a = some (qKe p a) := by
  have hm := hp.m
  unfold jU6 qKe
  rw [jN2 hp hN, bS, jH2]
  by_cases h : jWs p = 0
  · rw [dT h, if_neg (by simp [h]), Bool.not_true, cond_false, jB6 (by omega) hN, bS, jLg, qQr hp hN]
    show (bif (!jUm p a) then _ else _) = _
    cases jUm p a <;> rfl
  · rw [dF h, if_pos h]; rfl
end Go.KB
namespace Go.KB
set_option linter.unusedVariables false
theorem jCj {α : Type} {l : List α} {N : Nat} {f : Int → Option (Int ⊕ (Unit ⊕ Bool))} {g : α → Bool} (hf : ∀ (i : Nat) (h : i < l.length), f (i : Int) = bif g l[i] then some (.inl ((i + 1 : Nat) : Int)) else some (.inr (.inr false))) (he : f (l.length : Int) = some (.inr (.inl ()))) (hN : l.length < N) :
  jXh f N 0 = some (bif l.all g then Sum.inl () else Sum.inr false) := by
 rw [jSb (fun i => bif (l.drop i).all g then .inl () else .inr false) (fun i hi => ?_) (by simp [he]) hN]
 ·rw [List.drop_zero]
 ·rw [hf i hi]
  simp only [drop_at hi, List.all_cons]
  cases g l[i]
  ·exact .inr rfl
  ·exact .inl ⟨rfl, by simp⟩
def qW2 (p : GPermitPlan) (l : List jJu) : Bool := (List.range l.length).all fun i => (l.take i).all (fun y => !jBv p l[i]! y) && l[i]!.Locks.all (fun k => l.any fun y => decide (y.Name = k))
theorem qX8 {p : GPermitPlan} {l : List jJu} : qW2 p l = true ↔ (∀ x ∈ l, ∀ y ∈ l, jBv p x y = false) ∧ ∀ x ∈ l, ∀ k ∈ x.Locks, ∃ y ∈ l, y.Name = k := by
 unfold qW2
 simp only [List.all_eq_true, Bool.and_eq_true, List.mem_range, List.any_eq_true, decide_eq_true_eq, Bool.not_eq_true']
 constructor
 ·intro h
  have key : ∀ i j, i < j → j < l.length → jBv p l[j]! l[i]! = false := fun i j hij hj => (h j hj).1 _ (by
   rw [jTr (show i < l.length by omega)]
   exact List.mem_take_iff_getElem.2 ⟨i, by omega, rfl⟩)
  refine ⟨fun x hx y hy => ?_, fun x hx k hk => ?_⟩
  ·obtain ⟨i, hi, rfl⟩ := List.getElem_of_mem hx
   obtain ⟨j, hj, rfl⟩ := List.getElem_of_mem hy
   rw [← jTr hi, ← jTr hj]
   rcases Nat.lt_trichotomy i j with h1 | h1 | h1
   ·rw [jNm]; exact key i j h1 hj
   ·subst h1; exact qXp p _
   ·exact key j i h1 hi
  ·obtain ⟨i, hi, rfl⟩ := List.getElem_of_mem hx
   exact (h i hi).2 k (by rw [jTr hi]; exact hk)
 ·rintro ⟨h1, h2⟩ i hi
  exact ⟨fun y hy => h1 _ (jFh hi) y (List.mem_of_mem_take hy), fun k hk => h2 _ (jFh hi) k hk⟩
def eC (p : GPermitPlan) (l : List Str) (i : Nat) : Int := if jUm p l[i]! = false then 6 else if inL (l.take i) l[i]! = true then 5 else 0
def qK5 (p : GPermitPlan) (l : List Str) : Int := jXx (eC p l) l.length 0
def CompR (p : GPermitPlan) (l : List Str) : Bool × Int := if jWs p ≠ 0 then (false, jWs p) else if qK5 p l = 0 then (qW2 p (l.map (atP p)), 0) else (false, qK5 p l)
end Go.KB
