/- The plain law of PermitSymmetric. No condition. -/
import Derived.Test.YtekbfkfjhgfieaaGreatPIn7
namespace Go.KB
set_option linter.unusedVariables false
theorem conf_at {p : GPermitPlan} (hc : checkPlan p = 0) {i k : Nat} (hi : i < p.Permits.length) (hk : k < p.Permits.length) : ConfR p p.Permits[i].Name p.Permits[k].Name = (exclQ p p.Permits[i] p.Permits[k], 0) := by
  have ho := okP hc
  unfold ConfR
  rw [if_neg (by simp [hc]), hasP_at hi, hasP_at hk, ho.atP_at (List.getElem_mem hi), ho.atP_at (List.getElem_mem hk)]; rfl
theorem near_at {p : GPermitPlan} (hc : checkPlan p = 0) {i k : Nat} (hi : i < p.Spaces.length) (hk : k < p.Spaces.length) : NearR p p.Spaces[i].Name p.Spaces[k].Name = (nearQ p p.Spaces[i].Name p.Spaces[k].Name, 0) := by
  unfold NearR
  rw [if_neg (by simp [hc]), hasS_iff.2 ⟨_, List.getElem_mem hi, rfl⟩, hasS_iff.2 ⟨_, List.getElem_mem hk, rfl⟩]; rfl
theorem near_zero {p : GPermitPlan} (ho : OkP p) {i k : Nat} (hi : i < p.Spaces.length) (hk : k < p.Spaces.length) : decide (nearQ p p.Spaces[i].Name p.Spaces[k].Name = 0) = decide (((i : Nat) : Int) = ((k : Nat) : Int)) := by
  refine decide_eq_decide.2 ⟨fun h => ?_, fun h => ?_⟩
  · have hn : p.Spaces[i].Name = p.Spaces[k].Name := by
      unfold nearQ at h
      by_cases e : p.Spaces[i].Name = p.Spaces[k].Name
      · exact e
      · rw [if_neg e] at h
        cases hb : (inL (atS p p.Spaces[i].Name).Next p.Spaces[k].Name || inL (atS p p.Spaces[k].Name).Next p.Spaces[i].Name) with
        | true => rw [hb] at h; cases h
        | false => rw [hb] at h; cases h
    have := ho.sd i k hi hk (by rw [bang hi, bang hk]; exact hn)
    omega
  · have : i = k := by omega
    subst this
    unfold nearQ; rw [if_pos rfl]
theorem excl_more {p : GPermitPlan} {e : GExclusion} {x y : GPermit} (h : exclQ p x y = true) : exclQ ({ p with Exclusions := p.Exclusions ++ [e] } : GPermitPlan) x y = true := by
  unfold exclQ at h ⊢
  cases hd : decide (x.Name = y.Name) with
  | true => rw [hd] at h; cases h
  | false =>
    rw [hd, cond_false] at h
    rw [cond_false]
    show (p.Exclusions ++ [e]).any (fun e => exE e (nearQ p x.Space y.Space) x.Kind y.Kind) = true
    rw [List.any_append, h]; rfl
theorem law_PermitSymmetric (x0 : GPermitPlan) (x1 : GExclusion) (h0 : x0.ok) (h1 : x1.ok) : f_law07_PermitSymmetric (2 ^ 70) x0 x1 = some true := by
  have hN : 1000000 ≤ 2 ^ 70 := by decide
  have hN2 : (2 : Nat) ^ 70 = 1180591620717411303424 := by decide
  have hlim : lim ≥ 10000000 := by decide
  unfold f_law07_PermitSymmetric
  rcases fit_eq x0 hN with hf | ⟨hf, hp, hc, hsl, hpl, hxl⟩
  · rw [hf, awake_true]; rfl
  rw [hf, bS, Bool.not_true, cond_false, awake_true]
  have ho := okP hc
  have hm := hp.m
  have hs := hp.s
  have hx := hp.x
  have hpm : SmP ({ x0 with Exclusions := x0.Exclusions ++ [x1] } : GPermitPlan) := ⟨hp.s, by rw [List.length_append]; simp only [List.length_singleton]; omega, hp.m, hp.n, hp.l⟩
  rw [app7 (by simp only [List.length_nil]; omega), bS, List.nil_append, app7 (by simp only [List.length_singleton]; omega), bS, CheckPlan_eq hpm hN, bS]
  have h4 : loopN (f_law07_PermitSymmetric_L4 (2 ^ 70) x0 (x0.Exclusions ++ [x1]) (checkPlan ({ x0 with Exclusions := x0.Exclusions ++ [x1] } : GPermitPlan))) (2 ^ 70) 0 = some (bif (List.range x0.Permits.length).all (fun _ => true) then Sum.inl () else Sum.inr false) := by
    refine loop_allI (fun i hi => ?_) ?_ (by omega)
    · have h1 : loopN (f_law07_PermitSymmetric_L1 (2 ^ 70) x0 (x0.Exclusions ++ [x1]) (checkPlan ({ x0 with Exclusions := x0.Exclusions ++ [x1] } : GPermitPlan)) (i : Int)) (2 ^ 70) 0 = some (bif (List.range x0.Permits.length).all (fun _ => true) then Sum.inl () else Sum.inr false) := by
        refine loop_allI (fun k hk => ?_) ?_ (by omega)
        · unfold f_law07_PermitSymmetric_L1
          rw [cmp_lss, dT (by omega), cond_true, idx_nat hi, bS, idx_nat hk, bS, Conflict_eq hp hN, Conflict_eq hp hN, conf_at hc hi hk, conf_at hc hk hi, exclQ_comm x0 x0.Permits[k], bS, bS, w64s (by omega)]
          have hik : (exclQ x0 x0.Permits[i] x0.Permits[k] && decide ((i : Int) = (k : Int))) = false := by
            by_cases e : i = k
            · subst e; rw [exclQ_self]; rfl
            · rw [dF (by omega), Bool.and_false]
          simp only [beq_self_eq_true, Bool.not_true, Bool.or_false, cmp_neq, cmp_eql]
          rw [w64i (by omega) (by omega), dT (show ((0 : Int) + 0 = 0) by omega), hik]
          simp only [Bool.not_true, Bool.or_self, cond_false]
          by_cases hk0 : checkPlan ({ x0 with Exclusions := x0.Exclusions ++ [x1] } : GPermitPlan) = 0
          · rw [dT hk0, Conflict_eq hpm hN]
            have hcm := conf_at (p := ({ x0 with Exclusions := x0.Exclusions ++ [x1] } : GPermitPlan)) hk0 (i := i) (k := k) hi hk
            simp only [] at hcm
            rw [hcm, bS]
            simp only [Bool.not_true, cond_false, decide_true, Bool.false_or]
            cases he : exclQ x0 x0.Permits[i] x0.Permits[k] with
            | false => rfl
            | true => rw [excl_more he]; rfl
          · rw [dF hk0]; rfl
        · unfold f_law07_PermitSymmetric_L1
          rw [cmp_lss, dF (by omega), cond_false]
      unfold f_law07_PermitSymmetric_L4
      rw [cmp_lss, dT (by omega), cond_true, h1, show (List.range x0.Permits.length).all (fun _ => true) = true by simp, w64s (by omega)]; rfl
    · unfold f_law07_PermitSymmetric_L4
      rw [cmp_lss, dF (by omega), cond_false]
  have h3 : loopN (f_law07_PermitSymmetric_L3 (2 ^ 70) x0) (2 ^ 70) 0 = some (bif (List.range x0.Spaces.length).all (fun _ => true) then Sum.inl () else Sum.inr false) := by
    refine loop_allI (fun i hi => ?_) ?_ (by omega)
    · have h2 : loopN (f_law07_PermitSymmetric_L2 (2 ^ 70) x0 (i : Int)) (2 ^ 70) 0 = some (bif (List.range x0.Spaces.length).all (fun _ => true) then Sum.inl () else Sum.inr false) := by
        refine loop_allI (fun k hk => ?_) ?_ (by omega)
        · unfold f_law07_PermitSymmetric_L2
          rw [cmp_lss, dT (by omega), cond_true, idx_nat hi, bS, idx_nat hk, bS, Near_eq hp hN, near_at hc hi hk, bS, bS, bS, Near_eq hp hN, near_at hc hk hi, nearQ_comm x0 x0.Spaces[k].Name, bS, w64s (by omega)]
          simp only [cmp_neq, cmp_eql]
          rw [w64i (by omega) (by omega), dT (show ((0 : Int) + 0 = 0) by omega), near_zero ho hi hk]
          simp
        · unfold f_law07_PermitSymmetric_L2
          rw [cmp_lss, dF (by omega), cond_false]
      unfold f_law07_PermitSymmetric_L3
      rw [cmp_lss, dT (by omega), cond_true, h2, show (List.range x0.Spaces.length).all (fun _ => true) = true by simp, w64s (by omega)]; rfl
    · unfold f_law07_PermitSymmetric_L3
      rw [cmp_lss, dF (by omega), cond_false]
  rw [h4, h3, show (List.range x0.Permits.length).all (fun _ => true) = true by simp, show (List.range x0.Spaces.length).all (fun _ => true) = true by simp]; rfl
end Go.KB
