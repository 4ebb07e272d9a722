/- The plain law of PermitInterlock. No condition. -/
import Derived.Test.YtekbfkfjhgfieaaGreatPIn7
namespace Go.KB
set_option linter.unusedVariables false
theorem law_PermitInterlock (x0 : GPermitPlan) (x1 : List GEvent) (h0 : x0.ok) (h1 : gL GEvent.ok x1) : jKl (2 ^ 70) x0 x1 = some true := by
  have hN : 1000000 ≤ 2 ^ 70 := by decide
  have hN2 : (2 : Nat) ^ 70 = 1180591620717411303424 := by decide
  unfold jKl
  refine qK2 hN jSx fun hp hc hsl hpl hxl hl => ?_
  have ho := okP hc
  obtain ⟨st, hn, hr⟩ := qK7 hp hc hN
  rw [hn, bS]
  simp only [jCp]
  rw [jBl, dT rfl, jSx]
  simp only [Bool.not_true, Bool.or_self, cond_false]
  have key : ∃ o, jXz (jVd (2 ^ 70) x0 x1) (2 ^ 70) (0, (⟨x0, 0, []⟩ : jJx), st, [], []) = some o ∧ ∃ y, o = Sum.inl y := by
    refine jMc (n := x1.length) (fun i s => s.1 = (i : Int) ∧ ∃ A, RunI x0 i A s.2.1 s.2.2.1 s.2.2.2.1 s.2.2.2.2) (fun o => ∃ y, o = Sum.inl y) ⟨rfl, newA x0, hr⟩ (fun i s hi hs => ?_) (fun s hs => ?_) (by omega)
    · obtain ⟨s1, g, st, air, pe⟩ := s
      obtain ⟨e1, A, hr⟩ := hs
      simp only [] at e1 hr
      subst e1
      obtain ⟨g', st', air', pe', hd, hr'⟩ := run_do hp ho hN hr (by omega) x1[i]
      have hlen : (jKg x0 (doA x0 A x1[i]).1 fun _ => true).length ≤ x0.Permits.length := qYd
      have hcf := fun a b => qZf hc hr'.inv (a := a) (b := b)
      refine ⟨(((i + 1 : Nat) : Int), g', st', air', pe'), ?_, rfl, (doA x0 A x1[i]).1, hr'⟩
      unfold jVd
      simp only []
      rw [jJ9, dT (by omega), cond_true, jVx hi, bS, hd, bS]
      simp only []
      rw [qKs hp hN hr'.rel, bS, jS5 hp (by omega) hN, qZw hc hr'.inv, bS, jBl, dT rfl]
      simp only [Bool.not_true, Bool.or_self, cond_false]
      generalize jKg x0 (doA x0 A x1[i]).1 (fun _ => true) = L at hlen hcf
      have h5 : jXz (jVf (2 ^ 70) x0 L) (2 ^ 70) 0 = some (bif L.all (fun _ => true) then Sum.inl () else Sum.inr false) := by
        refine jNk (fun j hj => ?_) ?_ (by omega)
        · have h4 : jXz (jVb (2 ^ 70) x0 L (j : Int)) (2 ^ 70) 0 = some (bif (List.range j).all (fun _ => true) then Sum.inl () else Sum.inr false) := by
            refine jCg (fun k hk => ?_) ?_ (by omega)
            · unfold jVb
              have hk' : k < L.length := by omega
              rw [jJ9, dT (by omega), cond_true, jVx hj, bS, jVx hk', bS, jA7 hp hN, hcf _ _ (List.getElem_mem hj) (List.getElem_mem hk'), bS, jBc (by omega)]; rfl
            · unfold jVb
              rw [jJ9, dF (by omega), cond_false]
          unfold jVf
          rw [jJ9, dT (by omega), cond_true, h4, jBc (by omega), show (List.range j).all (fun _ => true) = true by simp]; rfl
        · unfold jVf
          rw [jJ9, dF (by omega), cond_false]
      rw [h5, show L.all (fun _ => true) = true by simp, jBc (by omega)]; rfl
    · obtain ⟨s1, g, st, air, pe⟩ := s
      obtain ⟨e1, _⟩ := hs
      simp only [] at e1
      subst e1
      refine ⟨Sum.inl (g, st, air, pe), ?_, (g, st, air, pe), rfl⟩
      unfold jVd
      simp only []
      rw [jJ9, dF (by omega), cond_false]
  obtain ⟨o, ho1, y, rfl⟩ := key
  rw [ho1]; rfl
end Go.KB
