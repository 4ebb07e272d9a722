/- TopDeskReplays: the desk says what the package says, and its journal replays. No condition. -/
import Derived.Test.YtipapjkpbnjkmaaGreatDoorPZ7
namespace Go.KB
set_option linter.unusedVariables false
set_option maxRecDepth 100000 in
theorem qWu : jHs (2 ^ 70) = some true := by kernel_rfl
theorem qV1 {b : jJq} : rowT [] (jPx b) = Lib.itoa b.Estimate ++ [32] ++ Lib.itoa b.Growth ++ [32] ++ Lib.itoa b.Charged ++ [32] ++ Lib.itoa b.Billed ++ [32] ++ Lib.itoa b.Paid ++ [32] ++ Lib.itoa b.Due := by
  unfold rowT jPx
  show Lib.join [Lib.itoa b.Estimate, Lib.itoa b.Growth, Lib.itoa b.Charged, Lib.itoa b.Billed, Lib.itoa b.Paid, Lib.itoa b.Due] [32] = _
  rw [join_cons, tail_cons, tail_cons, tail_cons, tail_cons, tail_cons]
  simp [Lib.joinTail]
/- the lines, one after another -/
theorem qVp {N : Nat} {x0 : List Str} (hten : jHs N = some true) (hN : 2000 ≤ N) (hl : x0.length ≤ 30) :
    (∃ g o it gn m, jZw (jX8 N x0) N (0, (⟨[]⟩ : jJj), [], [], []) = some (.inl (g, o, it, gn)) ∧ jGb g o it gn m ∧ Vl Nm m ∧ m.length ≤ 30) ∨
    ∃ q, jZw (jX8 N x0) N (0, (⟨[]⟩ : jJj), [], [], []) = some (.inr (true, q)) := by
  obtain ⟨r, e, hr⟩ := jUx (f := jX8 N x0) (fun s => ∃ (i : Nat) (m : List jJu), s.1 = i ∧ i ≤ x0.length ∧ jGb s.2.1 s.2.2.1 s.2.2.2.1 s.2.2.2.2 m ∧ Vl Nm m ∧ m.length ≤ i) (fun s => x0.length - s.1.toNat)
    (fun r => (∃ g o it gn m, r = .inl (g, o, it, gn) ∧ jGb g o it gn m ∧ Vl Nm m ∧ m.length ≤ 30) ∨ ∃ q, r = .inr (true, q)) (by
    rintro ⟨s, g, o, it, gn⟩ ⟨i, m, hs, hi, B, v, hm⟩
    dsimp only at hs B
    subst hs
    unfold jX8
    dsimp only
    by_cases hlt : i < x0.length
    · rw [jQa, dT (by omega), cnT, jKl hlt, bS, jY9]
      by_cases hb : (300 : Int) < (x0[i].length : Int)
      · right
        rw [dT hb, cnT, hten]
        exact ⟨_, rfl, .inr ⟨_, rfl⟩⟩
      · left
        obtain ⟨g', o', it', gn', s, m', h1, B', v', hm'⟩ := do_any (N := N) B v (by omega) hN (x := x0[i]) (by omega)
        rw [dF hb, cnF, bS, h1, bS, jP8 (by omega)]
        exact ⟨_, rfl, ⟨i + 1, m', rfl, by omega, B', v', by omega⟩, by dsimp only; omega⟩
    · right
      rw [jQa, dF (by omega), cnF]
      exact ⟨_, rfl, .inl ⟨g, o, it, gn, m, rfl, B, v, by omega⟩⟩) N (0, (⟨[]⟩ : jJj), [], [], []) ⟨0, [], rfl, by omega, qYn, Vl.nil, by simp⟩ (by dsimp only; omega)
  rcases hr with ⟨g, o, it, gn, m, rfl, h⟩ | ⟨q, rfl⟩
  · exact .inl ⟨g, o, it, gn, m, e, h⟩
  · exact .inr ⟨q, e⟩
section
variable {N : Nat} {g0 : jJj} {o : List (Str × Int)} {it : List (jJz × Int)} {gn : List (Int × Bool)} {m : List jJu} {g1 : jJj} {o1 : List (Str × Int)} {it1 : List (jJz × Int)} {gn1 : List (Int × Bool)}
theorem qWd (B : jGb g0 o it gn m) (C : jGb g1 o1 it1 gn1 m) (v : Vl Nm m) (hl : m.length ≤ 30) (hN : 2000 ≤ N) :
    ∃ q, jZw (jZ1 N (g1, o1, it1, gn1)) N (1, g0, o, it, gn) = some (.inl q) := by
  obtain ⟨r, e, q, rfl⟩ := jUx (f := jZ1 N (g1, o1, it1, gn1)) (fun s => ∃ i : Nat, s = ((i : Int), g0, o, it, gn) ∧ 1 ≤ i ∧ i ≤ m.length + 1) (fun s => m.length + 1 - s.1.toNat) (fun r => ∃ q, r = .inl q) (by
    rintro s ⟨i, rfl, h1, hi⟩
    unfold jZ1
    dsimp only
    have hposts : jQt N g1 o1 it1 gn1 = some m := by
      unfold jQt jXw
      rw [C.posts, jDy (by simp; omega)]; rfl
    rw [hposts, bS, jBu]
    by_cases hlt : i ≤ m.length
    · left
      have hb : jLn (i : Int) := jWv (by omega) (by omega)
      have hil := (jWa hb).2
      rw [dT (by omega), cnT, qVw C v.base (by omega) hN, if_pos (show 1 ≤ (i : Int) ∧ (i : Int) ≤ m.length by omega), bS]
      dsimp only
      have hw : (bif jYu m (i : Int) then (some ([121, 101, 115] : Str)) else some ([110, 111] : Str)) = some (jS9 m (i : Int)) := by
        unfold jS9
        rw [if_pos (show 1 ≤ (i : Int) ∧ (i : Int) ≤ m.length by omega)]
        cases jYu m (i : Int) <;> rfl
      rw [hw, bS, jYl, dT rfl]
      simp only [Bool.not_true, Bool.not_false, cnT]
      rw [jL2 hb (by omega), bS, jYm (by simp only [List.length_cons, List.length_nil]; omega), bS, qK3 B v (by omega) hN (by omega) (by omega), bS]
      dsimp only
      rw [jH3, dT rfl, jP8 (by omega)]
      exact ⟨_, rfl, ⟨i + 1, rfl, by omega, by omega⟩, by dsimp only; omega⟩
    · right
      rw [dF (by omega), cnF]
      exact ⟨_, rfl, _, rfl⟩) N (1, g0, o, it, gn) ⟨1, rfl, by omega, by omega⟩ (by dsimp only; omega)
  exact ⟨q, e⟩
end
theorem law_TopDeskReplays (x0 : List Str) (x1 : Str) (h0 : gL gS x0) (h1 : gS x1) : jYr (2 ^ 70) x0 x1 = some true := by
  have hten := qWu
  have hN : (4000 : Nat) ≤ 2 ^ 70 := by decide
  generalize (2 : Nat) ^ 70 = N at *
  unfold jYr
  rw [jY9, jY9]
  by_cases hs : (30 : Int) < (x0.length : Int) ∨ (40 : Int) < (x1.length : Int)
  · rw [← Bool.decide_or, dT hs, cnT, hten]; rfl
  · rw [← Bool.decide_or, dF hs, cnF]
    unfold jKf jYn
    rw [bS, bS]
    dsimp only
    rcases qVp (N := N) (x0 := x0) hten (by omega) (by omega) with ⟨g, o, it, gn, m, e, B, v, hm⟩ | ⟨q, e⟩
    · rw [e, bS, Sum.elim_inl]
      unfold jYc
      rw [bS]
      dsimp only
      have hjl := jAv v
      rw [jL5 B v (by omega) (by omega), bS]
      obtain ⟨g', o', it', gn', hR, C⟩ := qQz (N := N) (by omega) (y := []) v (by omega) (by rw [List.append_nil]; omega) (fun b hb => by cases hb)
      rw [List.append_nil] at hR
      rw [hR, bS]
      unfold jMd
      dsimp only
      have hpb : jQt N g o it gn = some m := by
        unfold jQt jXw
        rw [B.posts, jDy (by simp; omega)]; rfl
      have hpc : jQt N g' o' it' gn' = some m := by
        unfold jQt jXw
        rw [C.posts, jDy (by simp; omega)]; rfl
      have hrl := jCv (m := m)
      have n1 : jJb .neq ((unj (jl 1 m)).length : Int) ((unj (jl 1 m)).length : Int) = false := by rw [jYl, dT rfl]; rfl
      have n2 : jJb .neq (m.length : Int) (m.length : Int) = false := by rw [jYl, dT rfl]; rfl
      have n3 : ∀ s : Str, jXn .neq s s = false := fun s => by rw [jH3, dT rfl]; rfl
      simp only [n1, Bool.or_self, Bool.not_false, cnT, hpb, hpc, bS, n2, qQl B v (show m.length ≤ 200 by omega) (show 2000 ≤ N by omega), qUk B v (show m.length ≤ 200 by omega) (show 2000 ≤ N by omega),
        jL2 (N := N) (n := ((unj (jl 1 m)).length : Int)) (jWv (by omega) (by omega)) (by omega), n3, jCr C v (show m.length ≤ 400 by omega) (show 2000 ≤ N by omega), jL2 (N := N) (n := ((jNn m).length : Int)) (jWv (by omega) (by omega)) (by omega), cnF]
      obtain ⟨q, hq⟩ := qWd (N := N) B C v hm (by omega)
      rw [qQ8 (by omega), bS]
      cases hn : jUf x1 with
      | false =>
        rw [cnF, bS, Sum.elim_inl]
        dsimp only
        rw [hq, bS, Sum.elim_inl, hten]; rfl
      | true =>
        have hne := jLd hn
        have hxl := jLc hn
        rw [cnT, jPd C v (by omega) (by omega) hne, bS]
        have hdo := qJ1 (N := N) B v (by omega) (by omega) hn
        have hc1 : jMq ([98, 97, 108, 97, 110, 99, 101, 32] : Str) x1 = some (([98, 97, 108, 97, 110, 99, 101, 32] : Str) ++ x1) := jYm (by simp only [List.length_cons, List.length_nil]; omega)
        have hfin : ∀ w : Str, w = qKb m x1 → (((some w : Option Str).bind fun o64 => (jMq ([98, 97, 108, 97, 110, 99, 101, 32] : Str) x1).bind fun v66 => (jQv N g o it gn v66).bind fun v67 => bif (jXn .neq v67.2.2.2.2 o64) then (some (Sum.inr (false, v67.1, v67.2.1, v67.2.2.1, v67.2.2.2.1))) else (some (Sum.inl (v67.1, v67.2.1, v67.2.2.1, v67.2.2.2.1))) : Option ((jJj × (List (Str × Int)) × (List (jJz × Int)) × (List (Int × Bool))) ⊕ (Bool × jJj × (List (Str × Int)) × (List (jJz × Int)) × (List (Int × Bool)))))) = some (Sum.inl (g, o, it, gn)) := by
          rintro w rfl
          rw [bS, hc1, bS, hdo, bS]
          dsimp only
          rw [n3, cnF]
        by_cases hz : stE m (jG6 m x1) = 0
        · rw [if_pos hz]
          have hb := qZt (m := m) B v (by omega) hne
          have k1 := jWa (hb _ (show (jTa (jL0 (jQy m) x1 ((m.length : Int) + 1)) (jFf (jQy m) x1)).Estimate ∈ _ by simp [jPx]))
          have k2 := jWa (hb _ (show (jTa (jL0 (jQy m) x1 ((m.length : Int) + 1)) (jFf (jQy m) x1)).Growth ∈ _ by simp [jPx]))
          have k3 := jWa (hb _ (show (jTa (jL0 (jQy m) x1 ((m.length : Int) + 1)) (jFf (jQy m) x1)).Charged ∈ _ by simp [jPx]))
          have k4 := jWa (hb _ (show (jTa (jL0 (jQy m) x1 ((m.length : Int) + 1)) (jFf (jQy m) x1)).Billed ∈ _ by simp [jPx]))
          have k5 := jWa (hb _ (show (jTa (jL0 (jQy m) x1 ((m.length : Int) + 1)) (jFf (jQy m) x1)).Paid ∈ _ by simp [jPx]))
          have k6 := jWa (hb _ (show (jTa (jL0 (jQy m) x1 ((m.length : Int) + 1)) (jFf (jQy m) x1)).Due ∈ _ by simp [jPx]))
          have hT : qKb m x1 = rowT [] (jPx (jTa (jL0 (jQy m) x1 ((m.length : Int) + 1)) (jFf (jQy m) x1))) := by unfold qKb; rw [if_pos hz]
          rw [qV1] at hT
          have hbd : ∀ n ∈ jPx (jTa (jL0 (jQy m) x1 ((m.length : Int) + 1)) (jFf (jQy m) x1)), jQh N n = some (Lib.itoa n) := fun n hn => jL2 (hb n hn) (by omega)
          generalize jTa (jL0 (jQy m) x1 ((m.length : Int) + 1)) (jFf (jQy m) x1) = b at *
          have d0 := jL2 (N := N) (n := 0) (jWv (by decide) (by decide)) (by omega)
          have l0 := (jWa (n := 0) (jWv (by decide) (by decide))).2
          dsimp only
          rw [d0, bS, jYm (by simp only [List.length_cons, List.length_nil]; omega), bS, jV1, dT rfl, cnT]
          rw [hbd b.Estimate (by simp [jPx]), bS, jYm (by simp only [List.length_cons, List.length_nil]; omega), bS,
            hbd b.Growth (by simp [jPx]), bS, jYm (by simp only [List.length_append, List.length_cons, List.length_nil]; omega), bS, jYm (by simp only [List.length_append, List.length_cons, List.length_nil]; omega), bS,
            hbd b.Charged (by simp [jPx]), bS, jYm (by simp only [List.length_append, List.length_cons, List.length_nil]; omega), bS, jYm (by simp only [List.length_append, List.length_cons, List.length_nil]; omega), bS,
            hbd b.Billed (by simp [jPx]), bS, jYm (by simp only [List.length_append, List.length_cons, List.length_nil]; omega), bS, jYm (by simp only [List.length_append, List.length_cons, List.length_nil]; omega), bS,
            hbd b.Paid (by simp [jPx]), bS, jYm (by simp only [List.length_append, List.length_cons, List.length_nil]; omega), bS, jYm (by simp only [List.length_append, List.length_cons, List.length_nil]; omega), bS,
            hbd b.Due (by simp [jPx]), bS, jYm (by simp only [List.length_append, List.length_cons, List.length_nil]; omega), bS]
          rw [hfin _ hT.symm, bS, Sum.elim_inl]
          dsimp only
          rw [hq, bS, Sum.elim_inl, hten]; rfl
        · rw [if_neg hz]
          have hst := qZu (qU6 (m := m) (n := jG6 m x1))
          have hsl := (jWa hst).2
          have hT : qKb m x1 = ([101, 114, 114, 111, 114, 32] : Str) ++ Lib.itoa (stE m (jG6 m x1)) := by unfold qKb; rw [if_neg hz]
          dsimp only
          rw [jL2 hst (by omega), bS, jYm (by simp only [List.length_cons, List.length_nil]; omega), bS, jV1, dF hz, cnF]
          rw [hfin _ hT.symm, bS, Sum.elim_inl]
          dsimp only
          rw [hq, bS, Sum.elim_inl, hten]; rfl
    · rw [e, bS, Sum.elim_inr]
end Go.KB
