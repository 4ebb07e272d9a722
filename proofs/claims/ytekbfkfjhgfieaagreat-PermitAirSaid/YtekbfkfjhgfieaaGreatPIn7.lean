/- Plain laws of chapter 7: the open permits are a possible set. No condition. -/
import Derived.Test.YtekbfkfjhgfieaaGreatPZo
import Derived.Test.YtekbfkfjhgfieaaGreatPZp
namespace Go.KB
set_option linter.unusedVariables false
theorem jCe {e : Nat → Int} : ∀ {k i : Nat}, (∀ j, i ≤ j → j < i + k → e j = 0) → jXx e k i = 0 := fun {k i} h => by
  rw [jR4 (e' := fun _ => 0) (fun j h1 h2 _ => h j h1 h2)]; exact jCm
theorem jAn {p : GPermitPlan} (ho : OkP p) : (p.Permits.map fun x => x.Name).Nodup := by
  unfold List.Nodup
  rw [List.pairwise_iff_getElem]
  intro i j hi hj hij he
  rw [List.length_map] at hi hj
  rw [List.getElem_map, List.getElem_map] at he
  have := ho.pd i j hi hj (by rw [jTr hi, jTr hj]; exact he)
  omega
theorem jLt {p : GPermitPlan} {A : AO} {so : jJu → Bool} {s : Str} : s ∈ jY4 p A so ↔ ∃ x ∈ p.Permits, x.Name = s ∧ stA A s = 2 ∧ so x = true := by
  unfold jY4
  rw [List.mem_map]
  constructor
  · rintro ⟨x, hx, rfl⟩
    obtain ⟨h1, h2⟩ := List.mem_filter.1 hx
    rw [Bool.and_eq_true, decide_eq_true_eq] at h2
    exact ⟨x, h1, rfl, h2⟩
  · rintro ⟨x, h1, rfl, h2, h3⟩
    exact ⟨x, List.mem_filter.2 ⟨h1, by rw [h3, dT h2]; rfl⟩, rfl⟩
theorem qXs {p : GPermitPlan} (ho : OkP p) {A : AO} {so : jJu → Bool} : (jY4 p A so).Nodup := by
  unfold jY4
  exact (jAn ho).sublist (List.filter_sublist.map _)
theorem qWa {p : GPermitPlan} {A : AO} {so : jJu → Bool} : (jY4 p A so).length ≤ p.Permits.length := by
  unfold jY4; rw [List.length_map]; exact List.length_filter_le _ _
theorem qXk {p : GPermitPlan} {l : List Str} (h1 : ∀ s ∈ l, jUm p s = true) (h2 : l.Nodup) : qK5 p l = 0 := by
  refine jCe fun j _ hj => ?_
  have hj' : j < l.length := by omega
  unfold eC
  rw [jTr hj', if_neg (by rw [h1 _ (List.getElem_mem hj')]; simp), if_neg]
  rw [qVh]
  intro hm
  obtain ⟨i, hi, he⟩ := List.mem_take_iff_getElem.1 hm
  have h3 := (List.pairwise_iff_getElem.1 h2) i j (by omega) hj' (by omega)
  exact h3 he
theorem jCv {p : GPermitPlan} {A : AO} (hi : qZ1 p A) {x : jJu} (hx : x ∈ p.Permits) (h2 : stA A x.Name = 2) : (∀ k ∈ x.Locks, stA A k = 2) ∧ ∀ s ∈ jFv p x, jAw p A x s = true := by
  have hb := hi.un x hx h2
  unfold jN4 at hb
  rw [Bool.or_eq_false_iff, Bool.not_eq_false', Bool.not_eq_false', List.isEmpty_iff, List.isEmpty_iff] at hb
  constructor
  · intro k hk
    have := List.filter_eq_nil_iff.1 hb.2 k hk
    simpa using this
  · intro s hs
    have := List.filter_eq_nil_iff.1 hb.1 s hs
    simpa using this
theorem qZg {p : GPermitPlan} (ho : OkP p) {A : AO} (hi : qZ1 p A) {so : jJu → Bool} (hso : ∀ x ∈ p.Permits, ∀ k ∈ x.Locks, stA A x.Name = 2 → so x = true → so (atP p k) = true) : qW2 p ((jY4 p A so).map (atP p)) = true := by
  have hmem : ∀ x ∈ (jY4 p A so).map (atP p), x ∈ p.Permits ∧ stA A x.Name = 2 ∧ so x = true := by
    intro x hx
    obtain ⟨s, hs, rfl⟩ := List.mem_map.1 hx
    obtain ⟨y, hy, rfl, h2, h3⟩ := jLt.1 hs
    rw [ho.atP_at hy]; exact ⟨hy, h2, h3⟩
  rw [qX8]
  refine ⟨fun x hx y hy => ?_, fun x hx k hk => ?_⟩
  · obtain ⟨a1, a2, _⟩ := hmem x hx
    obtain ⟨b1, b2, _⟩ := hmem y hy
    exact hi.w.ex x a1 y b1 a2 b2
  · obtain ⟨a1, a2, a3⟩ := hmem x hx
    have hk2 := (jCv hi a1 a2).1 k hk
    have hh := (ho.lk x a1 k hk).1
    obtain ⟨c1, c2⟩ := jDa hh
    exact ⟨atP p k, List.mem_map.2 ⟨k, jLt.2 ⟨atP p k, c1, c2, hk2, hso x a1 k hk a2 a3⟩, rfl⟩, c2⟩
theorem open_comp {p : GPermitPlan} (hc : jWs p = 0) {A : AO} (hi : qZ1 p A) : CompR p (jY4 p A fun _ => true) = (true, 0) := by
  have ho := okP hc
  have hz := qXk (p := p) (l := jY4 p A fun _ => true) (fun s hs => by
    obtain ⟨x, hx, rfl, _⟩ := jLt.1 hs
    exact jBq.2 ⟨x, hx, rfl⟩) (qXs ho)
  unfold CompR
  rw [if_neg (by simp [hc]), if_pos hz, qZg ho hi (fun _ _ _ _ _ _ => rfl)]
theorem open_conf {p : GPermitPlan} (hc : jWs p = 0) {A : AO} (hi : qZ1 p A) {a b : Str} (ha : a ∈ jY4 p A fun _ => true) (hb : b ∈ jY4 p A fun _ => true) : ConfR p a b = (false, 0) := by
  have ho := okP hc
  obtain ⟨x, hx, rfl, a2, _⟩ := jLt.1 ha
  obtain ⟨y, hy, rfl, b2, _⟩ := jLt.1 hb
  unfold ConfR
  rw [if_neg (by simp [hc]), jBq.2 ⟨x, hx, rfl⟩, jBq.2 ⟨y, hy, rfl⟩, ho.atP_at hx, ho.atP_at hy, hi.w.ex x hx y hy a2 b2]; rfl
/- a loop over events, of which no round ends it -/
theorem qK6 {p : GPermitPlan} {n : Nat} {N : Nat} {K : Option Bool} (hN : 1000000 ≤ N) (ha : jU1 N = some true) (hK : SmP p → jWs p = 0 → p.Spaces.length ≤ 8 → p.Permits.length ≤ 8 → p.Exclusions.length ≤ 12 → n ≤ 30 → K = some true) : ((jHw N p).bind fun v1 => bif ((!v1) || (jJy .gtr (n : Int) 30)) then ((jU1 N).bind fun v2 => some v2) else K) = some true := by
  rcases fit_eq p hN with hf | ⟨hf, hp, hc, hsl, hpl, hxl⟩
  · rw [hf, ha]; rfl
  rw [hf, bS, Bool.not_true, Bool.false_or, jGr, ha]
  by_cases hl : 30 < n
  · rw [dT (by omega)]; rfl
  · rw [dF (by omega), cond_false]; exact hK hp hc hsl hpl hxl (by omega)
end Go.KB
