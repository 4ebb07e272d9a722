/- Plain laws of chapter 7: near, exclusion and needs of the reference. Plain laws of chapter 7: which sets of permits are possible. No condition. -/
import Derived.Test.YtekbfkfjhgfieaaGreatPZn
namespace Go.KB
set_option linter.unusedVariables false
theorem Near_eq {N : Nat} {p : GPermitPlan} {a b : Str} (hp : SmP p) (hN : 1000000 ≤ N) : f_permit_Near N p a b = some (NearR p a b) := by
  have hs := hp.s
  unfold f_permit_Near NearR
  rw [CheckPlan_eq hp hN, bS, cmp_neq]
  by_cases h : checkPlan p = 0
  · rw [dT h, if_neg (by simp [h]), Bool.not_true, cond_false, spaceOf_eq (by omega) hN, spaceOf_eq (by omega) hN, bS, bS, findO_snd, findO_snd, near_eq hp hN]
    show (bif (!hasS p a || !hasS p b) then _ else _) = _
    cases (!hasS p a || !hasS p b) <;> rfl
  · rw [dF h, if_pos h]; rfl
theorem Conflict_eq {N : Nat} {p : GPermitPlan} {a b : Str} (hp : SmP p) (hN : 1000000 ≤ N) : f_permit_Conflict N p a b = some (ConfR p a b) := by
  have hm := hp.m
  unfold f_permit_Conflict ConfR
  rw [CheckPlan_eq hp hN, bS, cmp_neq]
  by_cases h : checkPlan p = 0
  · rw [dT h, if_neg (by simp [h]), Bool.not_true, cond_false, permitOf_eq (by omega) hN, permitOf_eq (by omega) hN, bS, bS, findO_snd, findO_snd, conflict_eq hp hN]
    show (bif (!hasP p a || !hasP p b) then _ else _) = _
    cases (!hasP p a || !hasP p b) <;> rfl
  · rw [dF h, if_pos h]; rfl
end Go.KB
namespace Go.KB
set_option linter.unusedVariables false
theorem loop_allR {α : Type} {l : List α} {N : Nat} {f : Int → Option (Int ⊕ (Unit ⊕ Bool))} {g : α → Bool} (hf : ∀ (i : Nat) (h : i < l.length), f (i : Int) = bif g l[i] then some (.inl ((i + 1 : Nat) : Int)) else some (.inr (.inr false))) (he : f (l.length : Int) = some (.inr (.inl ()))) (hN : l.length < N) :
  loopN f N 0 = some (bif l.all g then Sum.inl () else Sum.inr false) := by
 rw [loop_R (fun i => bif (l.drop i).all g then .inl () else .inr false) (fun i hi => ?_) (by simp [he]) hN]
 ·rw [List.drop_zero]
 ·rw [hf i hi]
  simp only [drop_at hi, List.all_cons]
  cases g l[i]
  ·exact .inr rfl
  ·exact .inl ⟨rfl, by simp⟩
theorem loop_allI {n N : Nat} {f : Int → Option (Int ⊕ (Unit ⊕ Bool))} {g : Nat → Bool} (hf : ∀ (i : Nat), i < n → f (i : Int) = bif g i then some (.inl ((i + 1 : Nat) : Int)) else some (.inr (.inr false))) (he : f (n : Int) = some (.inr (.inl ()))) (hN : n < N) :
  loopN f N 0 = some (bif (List.range n).all g then Sum.inl () else Sum.inr false) :=
 loop_allR (l := List.range n) (fun i hi => by rw [List.getElem_range]; exact hf i (by simpa using hi)) (by rw [List.length_range]; exact he) (by rw [List.length_range]; exact hN)
def possB (p : GPermitPlan) (l : List GPermit) : Bool := (List.range l.length).all fun i => (l.take i).all (fun y => !exclQ p l[i]! y) && l[i]!.Locks.all (fun k => l.any fun y => decide (y.Name = k))
theorem possB_iff {p : GPermitPlan} {l : List GPermit} : possB p l = true ↔ (∀ x ∈ l, ∀ y ∈ l, exclQ p x y = false) ∧ ∀ x ∈ l, ∀ k ∈ x.Locks, ∃ y ∈ l, y.Name = k := by
 unfold possB
 simp only [List.all_eq_true, Bool.and_eq_true, List.mem_range, List.any_eq_true, decide_eq_true_eq, Bool.not_eq_true']
 constructor
 ·intro h
  have key : ∀ i j, i < j → j < l.length → exclQ p l[j]! l[i]! = false := fun i j hij hj => (h j hj).1 _ (by
   rw [bang (show i < l.length by omega)]
   exact List.mem_take_iff_getElem.2 ⟨i, by omega, rfl⟩)
  refine ⟨fun x hx y hy => ?_, fun x hx k hk => ?_⟩
  ·obtain ⟨i, hi, rfl⟩ := List.getElem_of_mem hx
   obtain ⟨j, hj, rfl⟩ := List.getElem_of_mem hy
   rw [← bang hi, ← bang hj]
   rcases Nat.lt_trichotomy i j with h1 | h1 | h1
   ·rw [exclQ_comm]; exact key i j h1 hj
   ·subst h1; exact exclQ_self p _
   ·exact key j i h1 hi
  ·obtain ⟨i, hi, rfl⟩ := List.getElem_of_mem hx
   exact (h i hi).2 k (by rw [bang hi]; exact hk)
 ·rintro ⟨h1, h2⟩ i hi
  exact ⟨fun y hy => h1 _ (mem_bang hi) y (List.mem_of_mem_take hy), fun k hk => h2 _ (mem_bang hi) k hk⟩
def eC (p : GPermitPlan) (l : List Str) (i : Nat) : Int := if hasP p l[i]! = false then 6 else if inL (l.take i) l[i]! = true then 5 else 0
def compE (p : GPermitPlan) (l : List Str) : Int := firstErr (eC p l) l.length 0
def CompR (p : GPermitPlan) (l : List Str) : Bool × Int := if checkPlan p ≠ 0 then (false, checkPlan p) else if compE p l = 0 then (possB p (l.map (atP p)), 0) else (false, compE p l)
end Go.KB
