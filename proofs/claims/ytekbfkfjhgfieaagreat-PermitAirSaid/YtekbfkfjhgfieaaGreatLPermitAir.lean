/- The plain law of PermitAir. No condition. -/
import Derived.Test.YtekbfkfjhgfieaaGreatPIn7
namespace Go.KB
set_option linter.unusedVariables false
theorem qUw {p : GPermitPlan} {A : AO} {s : Str} (h : qXl p A s = true) : qXw p A s = true := by
  unfold qXl at h
  unfold qXw
  cases hE : (atS p s).Enclosed with
  | false => rfl
  | true =>
    rw [hE] at h
    simp only [Bool.not_true, cond_false] at h ⊢
    cases ht : A.ts s with
    | none => rw [ht] at h; cases h
    | some t =>
      rw [ht] at h
      simp only [Bool.and_eq_true] at h ⊢
      exact h.1
theorem jAb {N : Nat} {l : List GEvent} {n : Str} {t : Int} (hl : l.length < 1000000) (hN : 1000000 ≤ N) : jU3 N l n t = some (l.any fun v => decide (v.Op = 11) && decide (v.Name = n) && decide (t < v.To)) := by
  unfold jU3
  refine qYg (fun i hi => ?_) ?_ (by omega)
  · unfold jKl
    rw [jQq, dT (by omega), cond_true, jVw hi, bS, jUt, jDb (by omega)]
    simp only [jUs, jGr]
    cases decide (l[i].Op = 11) with
    | false => rfl
    | true =>
      simp only [cond_true, bS, Bool.true_and]
      cases decide (l[i].Name = n) with
      | false => rfl
      | true => simp only [cond_true, bS, Bool.true_and]
  · unfold jKl
    rw [jQq, dF (by omega), cond_false]
theorem qVs {N : Nat} {p : GPermitPlan} {A : AO} {g : jJq} {st : List (Str × jJj)} {air : List (Str × jJz)} {pe : List (Str × Str)} (h : RelA p A g st air pe) (hl : A.done.length < 1000000) : jWa N g st air pe = some A.done := by
  have hlim : lim ≥ 10000000 := by decide
  unfold jWa jVy
  rw [h.done, qQ6 (by simp only [List.length_nil]; omega)]; rfl
theorem qVr {p : GPermitPlan} (ho : OkP p) {x : jJu} (hx : x ∈ p.Permits) {s : Str} (hs : s ∈ jFv p x) : jM3 p s = true := by
  have hsp := (ho.pk x hx).2.2.2.2
  unfold jFv at hs
  rcases List.mem_append.1 hs with hs | hs
  · cases hb : (jPz x && (atS p x.Space).Enclosed) with
    | false => rw [hb] at hs; cases hs
    | true =>
      rw [hb, cond_true, List.mem_singleton] at hs
      rw [hs, (qQb hsp).2]; exact hsp
  · cases hb : decide (x.Kind = 0) with
    | false => rw [hb] at hs; cases hs
    | true =>
      rw [hb, cond_true, List.mem_map] at hs
      obtain ⟨y, hy, rfl⟩ := hs
      exact qYh.2 ⟨y, (List.mem_filter.1 hy).1, rfl⟩
theorem law_PermitAir (x0 : GPermitPlan) (x1 : List GEvent) (h0 : x0.ok) (h1 : gL GEvent.ok x1) : jGa (2 ^ 70) x0 x1 = some true := by
  have hN : 1000000 ≤ 2 ^ 70 := by decide
  have hN2 : (2 : Nat) ^ 70 = 1180591620717411303424 := by decide
  unfold jGa
  refine qK6 hN jR9 fun hp hc hsl hpl hxl hl => ?_
  have ho := okP hc
  have hm := hp.m
  obtain ⟨st, hn, hr⟩ := qUm hp hc hN
  rw [hn, bS]
  simp only [jCr]
  rw [jH2, dT rfl, jR9]
  simp only [Bool.not_true, Bool.or_self, cond_false]
  have key : ∃ o, jXh (jYx (2 ^ 70) x0 x1) (2 ^ 70) (0, (⟨x0, 0, []⟩ : jJq), st, [], []) = some o ∧ ∃ y, o = Sum.inl y := by
    refine jM5 (n := x1.length) (fun i s => s.1 = (i : Int) ∧ ∃ A, RunI x0 i A s.2.1 s.2.2.1 s.2.2.2.1 s.2.2.2.2) (fun o => ∃ y, o = Sum.inl y) ⟨rfl, newA x0, hr⟩ (fun i s hi hs => ?_) (fun s hs => ?_) (by omega)
    · obtain ⟨s1, g, st, air, pe⟩ := s
      obtain ⟨e1, A0, hr⟩ := hs
      simp only [] at e1 hr
      subst e1
      obtain ⟨g', st', air', pe', hd, hr'⟩ := run_do hp ho hN hr (by omega) x1[i]
      refine ⟨(((i + 1 : Nat) : Int), g', st', air', pe'), ?_, rfl, (doA x0 A0 x1[i]).1, hr'⟩
      unfold jYx
      simp only []
      rw [jQq, dT (by omega), cond_true, jVw hi, bS, hd, bS]
      simp only []
      rw [qK8 hp hN hr'.rel, bS]
      generalize doA x0 A0 x1[i] = R at hr'
      obtain ⟨A, R2⟩ := R
      simp only [] at hr' ⊢
      have hb := hr'.bd (by omega)
      have hdl := hr'.len
      have hlen : (jY4 x0 A fun _ => true).length ≤ x0.Permits.length := qWa
      have h5 : jXh (jYz (2 ^ 70) x0 (g', st', air', pe', R2.1, R2.2) (jY4 x0 A fun _ => true)) (2 ^ 70) 0 = some (bif (jY4 x0 A fun _ => true).all (fun _ => true) then Sum.inl () else Sum.inr false) := by
        refine jCj (fun j hj => ?_) ?_ (by omega)
        · obtain ⟨x, hx, hxn, hx2, _⟩ := jLt.1 (List.getElem_mem hj)
          rw [← hxn] at hx2
          have hh : jUm x0 x.Name = true := jBq.2 ⟨x, hx, rfl⟩
          obtain ⟨q, hq, e1, e2⟩ := ixP hh
          rw [ho.atP_at hx] at e2
          have hfr := hr'.inv.w.fr x hx hx2
          have hli := hr'.inv.li x hx (by omega)
          have hto := hr'.inv.w.to x hx
          obtain ⟨_, hair⟩ := jCv hr'.inv hx hx2
          unfold jYz
          rw [jQq, dT (by omega), cond_true, jVw hj, bS, ← hxn, jNc (by omega) hN, bS, e1, jQq, dF (by omega), cond_false, jAx hq, e2, bS]
          simp only []
          rw [Now_eq hr'.rel, bS, jQq, dF (show ¬ A.now < x.From by omega), qVs hr'.rel (by omega)]
          simp only [Bool.not_false, cond_true, bS, Bool.true_and, Bool.false_or, jDw]
          have hex : x.To ≤ A.now → (A.done.any fun v => decide (v.Op = 11) && decide (v.Name = x.Name) && decide (A.now < v.To)) = true := by
            intro ht
            rw [List.any_eq_true]
            rcases hto with h | ⟨v, hv, a, b, c⟩
            · omega
            · exact ⟨v, hv, by rw [dT a, dT b, dT (by omega)]; rfl⟩
          have hNd : jU6 (2 ^ 70) x0 x.Name = some (jFv x0 x, 0) := by
            rw [qW3 hp hN]
            unfold qKe
            rw [if_neg (by simp [hc]), hh, ho.atP_at hx]; rfl
          have hnl : (jFv x0 x).length < 1000000 := Nat.lt_trans (qJ7 (x := x) hp) (by decide)
          have h4 : jXh (jYw (2 ^ 70) (g', st', air', pe', R2.1, R2.2) x (jFv x0 x, 0)) (2 ^ 70) 0 = some (bif (jFv x0 x).all (fun _ => true) then Sum.inl () else Sum.inr false) := by
            refine jCj (fun k hk => ?_) ?_ (by omega)
            · unfold jYw
              have hkm := List.getElem_mem hk
              have hg := hair _ hkm
              simp only []
              rw [jQq, dT (by omega), cond_true, jVw hk, bS]
              rw [qUr hp hN hr'.rel hb, qVr ho hx hkm, cond_true, bS, jDb (by omega)]
              simp only [jH2, jUt, decide_true]
              unfold jAw at hg
              by_cases hk0 : x.Kind = 0
              · rw [dT hk0, cond_true] at hg
                rw [qUw hg, hg, dT hk0]; rfl
              · rw [dF hk0, cond_false] at hg
                rw [hg, dF hk0]; rfl
            · unfold jYw
              simp only []
              rw [jQq, dF (by omega), cond_false]
          rw [hNd, jDb (by omega)]
          by_cases ht : x.To ≤ A.now
          · rw [dT ht]
            simp only [cond_true, bS]
            rw [jAb (by omega) hN, hex ht]
            simp only [bS, Bool.not_true, Bool.and_false, cond_false, jH2]
            rw [h4, show (jFv x0 x).all (fun _ => true) = true by simp]; rfl
          · rw [dF ht]
            simp only [cond_false, bS, Bool.false_and, jH2]
            rw [h4, show (jFv x0 x).all (fun _ => true) = true by simp]; rfl
        · unfold jYz
          rw [jQq, dF (by omega), cond_false]
      rw [h5, show (jY4 x0 A fun _ => true).all (fun _ => true) = true by simp, jDb (by omega)]; rfl
    · obtain ⟨s1, g, st, air, pe⟩ := s
      obtain ⟨e1, _⟩ := hs
      simp only [] at e1
      subst e1
      refine ⟨Sum.inl (g, st, air, pe), ?_, (g, st, air, pe), rfl⟩
      unfold jYx
      simp only []
      rw [jQq, dF (by omega), cond_false]
  obtain ⟨o, ho1, y, rfl⟩ := key
  rw [ho1]; rfl
end Go.KB
