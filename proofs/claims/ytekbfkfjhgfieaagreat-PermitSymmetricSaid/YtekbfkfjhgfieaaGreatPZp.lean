/- Plain laws of chapter 7: why a permit is not opened. Plain laws of chapter 7: the people in the spaces, in the order of their names. Plain laws of chapter 7: what the program's office does. Plain laws of chapter 7: each event in the program's office. Plain laws of chapter 7: the program's office does what the office by names does. Plain laws of chapter 7: what the statements share. No condition. -/
import Derived.Test.YtekbfkfjhgfieaaGreatPZn
import Derived.Test.YtekbfkfjhgfieaaGreatPAwk
namespace Go.KB
set_option linter.unusedVariables false
section
variable {N : Nat} {p : GPermitPlan} {A : AO} {g : Gpermit_Office} {st : List (Str × Gpermit_entry)} {air : List (Str × Gpermit_test)} {pe : List (Str × Str)} (hp : SmP p) (ho : OkP p) (hN : 1000000 ≤ N) (h : RelA p A g st air pe) (b : BdA A)
include hp hN h
end
end Go.KB
namespace Go.KB
set_option linter.unusedVariables false
end Go.KB
namespace Go.KB
set_option linter.unusedVariables false
section
variable {N : Nat} {p : GPermitPlan} {A : AO} {g : Gpermit_Office} {st : List (Str × Gpermit_entry)} {air : List (Str × Gpermit_test)} {pe : List (Str × Str)} (hp : SmP p) (ho : OkP p) (hN : 1000000 ≤ N) (h : RelA p A g st air pe) (b : BdA A) (hpp : A.pp.Pairwise (fun a b => a.1 < b.1))
include hp hN h
include b hpp
include ho
end
end Go.KB
namespace Go.KB
set_option linter.unusedVariables false
section
variable {N : Nat} {p : GPermitPlan} {A : AO} {g : Gpermit_Office} {st : List (Str × Gpermit_entry)} {air : List (Str × Gpermit_test)} {pe : List (Str × Str)} (hp : SmP p) (ho : OkP p) (hN : 1000000 ≤ N) (h : RelA p A g st air pe) (b : BdA A) (hpp : A.pp.Pairwise (fun a b => a.1 < b.1))
include hN h
include hp b hpp ho
omit ho hpp b
include hpp
omit hpp
include ho
end
end Go.KB
namespace Go.KB
set_option linter.unusedVariables false
instance : Inhabited Gpermit_deed := ⟨⟨[], [], [], none⟩⟩
section
variable {N : Nat} {p : GPermitPlan} {A : AO} {g : Gpermit_Office} {st : List (Str × Gpermit_entry)} {air : List (Str × Gpermit_test)} {pe : List (Str × Str)} (hp : SmP p) (ho : OkP p) (hN : 1000000 ≤ N) (h : RelA p A g st air pe) (b : BdA A) (hpp : A.pp.Pairwise (fun a b => a.1 < b.1))
include hp hN h b hpp ho
end
end Go.KB
namespace Go.KB
set_option linter.unusedVariables false
theorem fit_eq {N : Nat} (p : GPermitPlan) (hN : 1000000 ≤ N) : f_law07_fit N p = some false ∨ (f_law07_fit N p = some true ∧ SmP p ∧ checkPlan p = 0 ∧ p.Spaces.length ≤ 8 ∧ p.Permits.length ≤ 8 ∧ p.Exclusions.length ≤ 12) := by
 unfold f_law07_fit
 rcases great_eq p hN with hg | ⟨hg, hp, _⟩
 ·rw [hg]; exact .inl rfl
 ·rw [hg, bS, Bool.not_false, cond_true, rCheckPlan_eq hp hN, bS, Bool.true_and]
  simp only [cmp_eql, cmp_leq]
  by_cases h : checkPlan p = 0 ∧ p.Spaces.length ≤ 8 ∧ p.Permits.length ≤ 8 ∧ p.Exclusions.length ≤ 12
  ·refine .inr ⟨?_, hp, h⟩
   rw [dT h.1, dT (by omega), dT (by omega), dT (by omega)]; rfl
  ·refine .inl ?_
   congr 1
   rw [Bool.eq_false_iff]
   intro hx
   simp only [Bool.and_eq_true, decide_eq_true_eq] at hx
   exact h (by omega)
section
variable {N : Nat} {p : GPermitPlan} {A : AO} {g : Gpermit_Office} {st : List (Str × Gpermit_entry)} {air : List (Str × Gpermit_test)} {pe : List (Str × Str)}
end
end Go.KB
