/- The plain law of PermitEnds. No condition. -/
import Derived.Test.YtekbfkfjhgfieaaGreatPZp
namespace Go.KB
set_option linter.unusedVariables false
theorem new_st {p : GPermitPlan} (ho : OkP p) {y : jJg} (hy : y ∈ p.Permits) : stA (qVu p) y.Name = 0 := by
  have hh : jUn p y.Name = true := jD2.2 ⟨y, hy, rfl⟩
  have hk := ho.pk y hy
  have hat := ho.atP_at hy
  have e0 : (qWm p).es y.Name = ⟨0, [], y.To⟩ := by
    show (bif jUn p y.Name then (⟨0, [], (atP p y.Name).To⟩ : jJj) else ⟨0, [], 0⟩) = _
    rw [hh, hat]; rfl
  have e : stA (jR6 p (qWm p)) y.Name = 0 := by
    rcases qJe (p := p) (A := qWm p) (s := y.Name) with h | ⟨_, _, h⟩
    · rw [h]; unfold stA; rw [e0]
    · rw [e0] at h
      have h' : y.To ≤ 0 := h
      omega
  rcases jSz (p := p) (A := jR6 p (qWm p)) (s := y.Name) with ⟨h1, _⟩ | ⟨_, h2, _⟩
  · show stA (jRh p (jR6 p (qWm p))) y.Name = 0
    rw [h1, e]
  · rw [e] at h2; cases h2
theorem qX4 {a b e : Int} {v : GEvent} {x : jJg} {Z : ((List Int) × Int) ⊕ ((List Int) ⊕ Bool)} (h4 : a ≥ 4 → b = a) (hb : 0 ≤ b ∧ b ≤ 6) (h2 : b = 2 → a ≠ 2 → (v.Op = 2 ∨ v.Op = 4) ∧ v.Name = x.Name ∧ e = 0) :
    ((bif (!(((jJy .neq 0 0) || (jJy .lss b 0)) || (jJy .gtr b 6))) then (some a) else some 0).bind fun v50 => (bif ((!(((jJy .neq 0 0) || (jJy .lss b 0)) || (jJy .gtr b 6))) && (jJy .geq v50 4)) then (some a) else some 0).bind fun v51 => bif ((((jJy .neq 0 0) || (jJy .lss b 0)) || (jJy .gtr b 6)) || ((jJy .geq v50 4) && (jJy .neq b v51))) then (some (.inr (Sum.inr false))) else ((bif (!(jJy .eql v.Op 2)) then (some v) else some (⟨0, 0, [], [], [], 0, 0, 0⟩ : GEvent)).bind fun v53 => (bif ((jJy .eql v.Op 2) || (jJy .eql v53.Op 4)) then (some v) else some (⟨0, 0, [], [], [], 0, 0, 0⟩ : GEvent)).bind fun v54 => (bif ((jJy .eql v.Op 2) || (jJy .eql v53.Op 4)) then (some x) else some (⟨[], 0, [], 0, 0, []⟩ : jJg)).bind fun v55 => (bif (jJy .eql b 2) then (some a) else some 0).bind fun v56 => bif (((jJy .eql b 2) && (jJy .neq v56 2)) && (!((((jJy .eql v.Op 2) || (jJy .eql v53.Op 4)) && (jKe .eql v54.Name v55.Name)) && (jJy .eql e 0)))) then (some (.inr (Sum.inr false))) else (some Z))) = some Z := by
  simp only [jDd, jQq, jGz, jB4, jU2, jUd]
  have h0 : ¬ b < 0 := by omega
  have h6 : ¬ 6 < b := by omega
  by_cases ha : 4 ≤ a
  · have hba := h4 ha
    have hb2 : ¬ b = 2 := by omega
    subst hba
    by_cases o2 : v.Op = 2 <;> by_cases o4 : v.Op = 4 <;> simp [h0, h6, ha, hb2, o2, o4]
  · by_cases hb2 : b = 2
    · by_cases ha2 : a = 2
      · by_cases o2 : v.Op = 2 <;> by_cases o4 : v.Op = 4 <;> simp [hb2, ha2, o2, o4]
      · obtain ⟨ho, hn, he⟩ := h2 hb2 ha2
        by_cases o2 : v.Op = 2
        · simp [ha, hb2, ha2, o2, hn, he]
        · have o4 : v.Op = 4 := by omega
          simp [ha, hb2, ha2, o4, hn, he]
    · by_cases o2 : v.Op = 2 <;> by_cases o4 : v.Op = 4 <;> simp [h0, h6, ha, hb2, o2, o4]
def stL (p : GPermitPlan) (A : AO) : Nat → Int := fun k => stA A p.Permits[k]!.Name
theorem law_PermitEnds (x0 : GPermitPlan) (x1 : List GEvent) (h0 : x0.ok) (h1 : gL GEvent.ok x1) : jU6 (2 ^ 70) x0 x1 = some true := by
  have hN : 1000000 ≤ 2 ^ 70 := by decide
  have hN2 : (2 : Nat) ^ 70 = 1180591620717411303424 := by decide
  unfold jU6
  rcases fit_eq x0 hN with hf | ⟨hf, hp, hc, hsl, hpl, hxl⟩
  · rw [hf, jR7]; rfl
  rw [hf, bS, Bool.not_true, Bool.false_or, jGz, jR7]
  by_cases hl : 30 < x1.length
  · rw [dT (by omega)]; rfl
  rw [dF (by omega), cond_false]
  have ho := okP hc
  obtain ⟨st, hn, hr⟩ := qY5 hp hc hN
  rw [hn, bS]
  simp only [jCx]
  rw [jDd, dT rfl]
  simp only [Bool.not_true, Bool.or_self, cond_false]
  have hmk : mk (0 : Int) (x0.Permits.length : Int) (x0.Permits.length : Int) = some (jNl x0.Permits.length 0 (stL x0 (qVu x0)) (stL x0 (qVu x0))) := by
    unfold mk
    have hlim : lim ≥ 1000000 := by decide
    rw [dT (by omega), dT (by omega), dT (by omega), jM0]
    refine congrArg some ?_
    refine List.ext_getElem (by simp) fun i hi _ => ?_
    simp only [List.length_replicate, Int.toNat_natCast] at hi
    simp only [List.getElem_replicate, List.getElem_map, List.getElem_range]
    unfold stL
    rw [new_st ho (jLd hi)]
  rw [hmk, bS]
  have key : ∃ o, jXm (jVa (2 ^ 70) x0 x1) (2 ^ 70) (jNl x0.Permits.length 0 (stL x0 (qVu x0)) (stL x0 (qVu x0)), 0, 0, (⟨x0, 0, []⟩ : jJq), st, [], []) = some o ∧ ∃ y, o = Sum.inl y := by
    refine jMv (n := x1.length) (fun i s => s.2.2.1 = (i : Int) ∧ ∃ A, s.1 = jNl x0.Permits.length 0 (stL x0 A) (stL x0 A) ∧ s.2.1 = A.now ∧ RunI x0 i A s.2.2.2.1 s.2.2.2.2.1 s.2.2.2.2.2.1 s.2.2.2.2.2.2) (fun o => ∃ y, o = Sum.inl y) ⟨rfl, qVu x0, rfl, rfl, hr⟩ (fun i s hi hs => ?_) (fun s hs => ?_) (by omega)
    · obtain ⟨s1, s2, s3, g, st, air, pe⟩ := s
      obtain ⟨e3, A, e1, e2, hr⟩ := hs
      simp only [] at e3 e1 e2 hr
      subst e3 e1 e2
      obtain ⟨g', st', air', pe', hd, hr'⟩ := run_do hp ho hN hr (by omega) x1[i]
      obtain ⟨_, hnow, hends, hopen⟩ := qYx ho (x := x1[i]) hr.inv
      have hb := hr'.bd (by omega)
      have hin : jXm (jV0 (2 ^ 70) x0 x1 (jNl x0.Permits.length 0 (stL x0 A) (stL x0 A), A.now, (i : Int), g, st, air, pe) (g', st', air', pe', (doA x0 A x1[i]).2.1, (doA x0 A x1[i]).2.2)) (2 ^ 70) (jNl x0.Permits.length 0 (stL x0 A) (stL x0 A), 0) = some (Sum.inl (jNl x0.Permits.length 0 (stL x0 (doA x0 A x1[i]).1) (stL x0 (doA x0 A x1[i]).1))) := by
        have := jMw (f := jV0 (2 ^ 70) x0 x1 (jNl x0.Permits.length 0 (stL x0 A) (stL x0 A), A.now, (i : Int), g, st, air, pe) (g', st', air', pe', (doA x0 A x1[i]).2.1, (doA x0 A x1[i]).2.2)) (N := 2 ^ 70) (n := x0.Permits.length) (fun k => (jNl x0.Permits.length k (stL x0 (doA x0 A x1[i]).1) (stL x0 A), (k : Int))) (Sum.inl (jNl x0.Permits.length 0 (stL x0 (doA x0 A x1[i]).1) (stL x0 (doA x0 A x1[i]).1))) (fun k hk => ?_) ?_ (by omega)
        · rw [← this, jM0, jM0]; rfl
        · unfold jV0
          simp only []
          have hh : jUn x0 x0.Permits[k].Name = true := jL7 hk
          have hst := hb.st x0.Permits[k].Name
          have hbk : stL x0 A k = stA A x0.Permits[k].Name := by unfold stL; rw [qVb hk]
          have hbk' : stL x0 (doA x0 A x1[i]).1 k = stA (doA x0 A x1[i]).1 x0.Permits[k].Name := by unfold stL; rw [qVb hk]
          have hset : (jNl x0.Permits.length k (stL x0 (doA x0 A x1[i]).1) (stL x0 A)).set k (stA (doA x0 A x1[i]).1 x0.Permits[k].Name) = jNl x0.Permits.length (k + 1) (stL x0 (doA x0 A x1[i]).1) (stL x0 A) := by rw [← hbk']; exact qVc hk
          have h4 := hends x0.Permits[k].Name
          have h2 := hopen x0.Permits[k].Name
          rw [jQq, dT (by omega), cond_true, jVw hk, bS, qW5 hr'.rel, hh, cond_true, bS]
          simp only [qWk hk, hbk, jVw hi, jDj (show k < 9223372036854775807 by omega), Int.toNat_natCast, hset, bS]
          exact qX4 h4 hst h2
        · unfold jV0
          simp only []
          rw [jQq, dF (by omega), cond_false, qWe, jM0]
      refine ⟨(jNl x0.Permits.length 0 (stL x0 (doA x0 A x1[i]).1) (stL x0 (doA x0 A x1[i]).1), (doA x0 A x1[i]).1.now, ((i + 1 : Nat) : Int), g', st', air', pe'), ?_, rfl, (doA x0 A x1[i]).1, rfl, rfl, hr'⟩
      unfold jVa
      simp only []
      rw [jQq, dT (by omega), cond_true, jVw hi, bS, hd, bS]
      simp only []
      rw [hin, bS]
      simp only [Sum.elim_inl]
      rw [Now_eq hr'.rel, bS, jQq, dF (by omega), cond_false, bS, jDj (by omega)]
    · obtain ⟨s1, s2, s3, g, st, air, pe⟩ := s
      obtain ⟨e3, _⟩ := hs
      simp only [] at e3
      subst e3
      refine ⟨Sum.inl (g, st, air, pe), ?_, (g, st, air, pe), rfl⟩
      unfold jVa
      simp only []
      rw [jQq, dF (by omega), cond_false]
  obtain ⟨o, ho1, y, rfl⟩ := key
  show ((jXm (jVa (2 ^ 70) x0 x1) (2 ^ 70) (jNl x0.Permits.length 0 (stL x0 (qVu x0)) (stL x0 (qVu x0)), 0, 0, (⟨x0, 0, []⟩ : jJq), st, [], [])).bind _) = _
  rw [ho1]; rfl
end Go.KB
