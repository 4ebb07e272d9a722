/- The plain law of SurveyCuts: it returns true for every plate, tree and width of a cut. No condition. -/
import Derived.Test.YtmhjgjflmemjmaaPZv
import Derived.Test.YtmhjgjflmemjmaaPSurvey
namespace Go.KB
set_option linter.unusedVariables false
set_option maxRecDepth 100000
theorem awakeC : f_law09_awake (2 ^ 70) = some true := by kernel_rfl
theorem rects_refl {N : Nat} {l : List GRect} (hl : l.length < 1000000) (hN : 1000000 ≤ N) : f_law09_rects N l l = some true := by
  have hloop : loopN (f_law09_rects_L1 N l l) N 0 = some (.inl ()) := by
    refine loopN_range l.length _ (fun i => True) ?_ ?_ trivial N (by omega)
    · intro i hi _
      refine .inl ⟨?_, trivial⟩
      have he : GRect.eqb l[i]! l[i]! = true := by unfold GRect.eqb; simp
      unfold f_law09_rects_L1
      rw [cmp_lss, dT (by omega), cnT, idxB hi, bS, bS, he, w64s (by omega)]; rfl
    · intro _
      unfold f_law09_rects_L1
      rw [cmp_lss, dF (by omega), cnF]
  unfold f_law09_rects
  rw [cmp_neq, dT rfl, hloop]; rfl
def okP (p : GPlate) : Prop := (1 ≤ p.W ∧ p.W ≤ 100000) ∧ (1 ≤ p.H ∧ p.H ≤ 100000) ∧ 0 ≤ p.Price ∧ p.Price ≤ 1000000000
instance (p : GPlate) : Decidable (okP p) := inferInstanceAs (Decidable ((1 ≤ p.W ∧ p.W ≤ 100000) ∧ (1 ≤ p.H ∧ p.H ≤ 100000) ∧ 0 ≤ p.Price ∧ p.Price ≤ 1000000000))
theorem plate_eq {N : Nat} {p : GPlate} (hN : 10 ≤ N) : f_survey_checkPlate N p = some (if okP p then 0 else 2) := by
  unfold f_survey_checkPlate
  rw [inside_eq (by simp) (by simp; omega), bS]
  have e1 : [p.W, p.H].all (inR 1 100000) = decide ((1 ≤ p.W ∧ p.W ≤ 100000) ∧ (1 ≤ p.H ∧ p.H ≤ 100000)) := by
    rw [Bool.eq_iff_iff]; simp [inR]
  have e2 : [p.Price].all (inR 0 1000000000) = decide (0 ≤ p.Price ∧ p.Price ≤ 1000000000) := by
    rw [Bool.eq_iff_iff]; simp [inR]
  rw [e1, inside_eq (by simp) (by simp; omega), e2]
  by_cases h : (1 ≤ p.W ∧ p.W ≤ 100000) ∧ (1 ≤ p.H ∧ p.H ≤ 100000)
  · by_cases g : 0 ≤ p.Price ∧ p.Price ≤ 1000000000
    · rw [dT h, dT g, if_pos ⟨h.1, h.2, g⟩]; rfl
    · rw [dT h, dF g, if_neg (fun x => g x.2.2)]; rfl
  · rw [dF h, if_neg (fun x => h ⟨x.1, x.2.1⟩)]; rfl
theorem rPlate_eq {N : Nat} {p : GPlate} : f_ref09_CheckPlate N p = some (if okP p then 0 else 2) := by
  unfold f_ref09_CheckPlate f_ref09_within
  simp only [cmp_geq, cmp_leq, bS, Bool.not_not]
  have e : ∀ a b : Prop, [Decidable a] → [Decidable b] → (decide a && decide b) = decide (a ∧ b) := fun a b _ _ => by rw [Bool.decide_and]
  simp only [e]
  by_cases h : 1 ≤ p.W ∧ p.W ≤ 100000
  · by_cases g : 1 ≤ p.H ∧ p.H ≤ 100000
    · by_cases k : 0 ≤ p.Price ∧ p.Price ≤ 1000000000
      · rw [dT h, dT g, dT k, if_pos ⟨h, g, k⟩]; rfl
      · rw [dT h, dT g, dF k, if_neg (fun x => k x.2.2)]; rfl
    · rw [dT h, dF g, if_neg (fun x => g x.2.1)]; rfl
  · rw [dF h, if_neg (fun x => h x.1)]; rfl
theorem kerf_eq {N : Nat} {k : Int} : f_ref09_CheckKerf N k = some (if 0 ≤ k ∧ k ≤ 100 then 0 else 2) := by
  unfold f_ref09_CheckKerf f_ref09_within
  rw [cmp_geq, cmp_leq, bS]
  by_cases a : 0 ≤ k
  · by_cases b : k ≤ 100
    · rw [dT a, dT b, if_pos ⟨a, b⟩]; rfl
    · rw [dT a, dF b, if_neg (fun x => b x.2)]; rfl
  · rw [dF a, if_neg (fun x => a x.1)]; rfl
theorem used_eq {N : Nat} {p : GPlate} {c : GCut} {k : Int} (hN : 2000000 ≤ N) (hT : nT c ≤ 299) : (∃ e : Int, e ≠ 0 ∧ (∃ l, f_survey_used N p c k = some (l, e)) ∧ f_ref09_CheckCuts N p c k = some ([], e))
    ∨ ∃ xs : List Gsurvey_leaf, xs.length ≤ 299 ∧ f_survey_used N p c k = some (xs, 0) ∧ f_ref09_CheckCuts N p c k = (loopN (f_ref09_CheckCuts_L2 N) N (xs.map toL, [])).bind fun o21 => some (o21, 0) := by
  unfold f_survey_used f_ref09_CheckCuts
  rw [plate_eq (by omega), rPlate_eq, bS, bS]
  by_cases h : okP p
  · rw [if_pos h, show (!cmpI .neq (0 : Int) 0) = true from rfl, cnT, cnT, inside_eq (by simp) (by simp; omega), kerf_eq, bS, bS]
    by_cases g : 0 ≤ k ∧ k ≤ 100
    · have e1 : [k].all (inR 0 100) = true := by simp [inR, g.1, g.2]
      rw [e1, if_pos g, show (cmpI .neq (0 : Int) 0 || !true) = false from rfl, show (cmpI .neq (0 : Int) 0 || cmpI .neq (0 : Int) 0) = false from rfl, cnF, cnF]
      obtain ⟨v, v1, v2⟩ := many_eq N c (by omega) (by omega)
      have n1 := nodes_eq 200 N (by omega) (by omega) c
      have n1 : f_ref09_nodes N c 200 = _ := n1
      rw [v1, n1, bS, bS]
      unfold PM at v2
      by_cases q : 200 < nT c
      · left
        refine ⟨8, by decide, ⟨[], ?_⟩, ?_⟩
        · rw [cmp_gtr, dT (by omega)]; rfl
        · rw [cmp_gtr, dT (by omega)]; rfl
      · rw [cmp_gtr, cmp_gtr, dF (by omega), dF (by omega), cnF, cnF]
        rcases leaves_eq N c ⟨0, 0, p.W, p.H⟩ k (by omega) (by omega) h.1.1 h.1.2 h.2.1.1 h.2.1.2 g.1 g.2 with ⟨xs, x1, x2, x3⟩ | ⟨x1, z, x2⟩
        · right
          refine ⟨xs, by omega, ?_, ?_⟩
          · rw [x1 [] (by simp only [List.length_nil]; omega)]; rfl
          · rw [x2]; rfl
        · left
          obtain ⟨l', t⟩ := x1 [] (by simp only [List.length_nil]; omega)
          refine ⟨3, by decide, ⟨[], ?_⟩, ?_⟩
          · rw [t]; rfl
          · rw [x2]; rfl
    · left
      have e1 : [k].all (inR 0 100) = false := by
        cases t : [k].all (inR 0 100) with
        | false => rfl
        | true => simp [inR] at t; exact absurd t g
      refine ⟨2, by decide, ⟨[], ?_⟩, ?_⟩
      · rw [e1]; rfl
      · rw [if_neg g]; rfl
  · left
    rw [if_neg h]
    exact ⟨2, by decide, ⟨[], rfl⟩, rfl⟩
theorem cmpC {N : Nat} {x y : Gsurvey_leaf} : f_survey_CheckCuts_1 N x y = some (if x.piece < y.piece then -1 else if y.piece < x.piece then 1 else 0) := by
  unfold f_survey_CheckCuts_1
  rw [cmp_lss, cmp_gtr]
  by_cases a : x.piece < y.piece
  · rw [dT a, if_pos a]; rfl
  · by_cases b : y.piece < x.piece
    · rw [dF a, dT b, if_neg a, if_pos b]; rfl
    · rw [dF a, dF b, if_neg a, if_neg b]; rfl
theorem out_eq {N : Nat} {l : List Gsurvey_leaf} (hl : l.length < 1000000) (hN : 1000000 ≤ N) : loopN (f_survey_CheckCuts_L1 N l) N ([], 0) = some (l.map fun x => x.rect) := by
  refine loop_map l (fun x => x.rect) (fun i hi acc ha => ?_) (fun acc => ?_) (by omega)
  · unfold f_survey_CheckCuts_L1
    simp only []
    rw [cmp_lss, dT (by omega), cnT, idx_nat hi, bS, app_ok (by simp only [List.length_singleton, lim]; omega), bS, w64s (by omega)]
  · unfold f_survey_CheckCuts_L1
    simp only []
    rw [cmp_lss, dF (by omega), cnF]
theorem law_SurveyCuts (x0 : GPlate) (x1 : GCut) (x2 : Int) (h0 : x0.ok) (h1 : x1.ok) (h2 : (gI .i64) x2) : f_law09_SurveyCuts (2 ^ 70) x0 x1 x2 = some true := by
  have hN : 4000000 ≤ (2 ^ 70 : Nat) := by decide
  unfold f_law09_SurveyCuts
  rw [awakeC, bS, Bool.not_true, cnF]
  generalize (2 ^ 70 : Nat) = N at hN
  have s1 := size_eq 300 N (by omega) (by omega) x1
  have s1 : f_law09_size N x1 300 = _ := s1
  rw [s1, bS, cmp_geq]
  by_cases q : 300 ≤ nT x1
  · rw [dT (by omega), cnT]
  · rw [dF (by omega), cnF]
    rcases used_eq (N := N) (p := x0) (c := x1) (k := x2) (by omega) (by omega) with ⟨e, e1, ⟨l, e2⟩, e3⟩ | ⟨xs, e1, e2, e3⟩
    · have a : f_survey_CheckCuts N x0 x1 x2 = some ([], e) := by
        unfold f_survey_CheckCuts
        rw [e2, bS]
        simp only []
        rw [cmp_neq, dF e1, Bool.not_false, cnT]
      rw [a, bS, e3, bS]
      simp only []
      rw [rects_refl (by simp) (by omega), bS, cmp_eql, dT rfl]; rfl
    · obtain ⟨π, p1, p2⟩ := stable_eq (L0 := xs) (φ := fun y0 y1 => f_survey_CheckCuts_1 N y0 y1) (fun x y => cmpC) (fun x y => by
        by_cases a : x.piece < y.piece
        · rw [if_pos a, dT a]; rfl
        · by_cases b : y.piece < x.piece
          · rw [if_neg a, if_pos b, dF a]; rfl
          · rw [if_neg a, if_neg b, dF a]; rfl) (by omega) hN
      have a : f_survey_CheckCuts N x0 x1 x2 = some ((permI xs π).map (fun x => x.rect), 0) := by
        unfold f_survey_CheckCuts f_slices_SortStableFunclsurvey_leaf_survey_leaf
        rw [e2, bS]
        simp only []
        rw [cmp_neq, dT rfl, Bool.not_true, cnF, p1, bS, bS, out_eq (by rw [permI_len]; omega) (by omega)]; rfl
      rw [a, bS, e3, select_eq (by omega) (by omega) p2, bS, bS]
      simp only []
      rw [rects_refl (by rw [List.length_map, permI_len]; omega) (by omega), bS, cmp_eql, dT rfl]; rfl
end Go.KB
