/- TopCrashedBook: after a crash the accounts are those of the whole lines. No condition. -/
import Derived.Test.YtkflmfhgpjpepaaGreatDoorPZ4
import Derived.Test.YtkflmfhgpjpepaaGreatDoorPZ5
import Derived.Test.YtkflmfhgpjpepaaGreatDoorPZ6
namespace Go.KB
set_option linter.unusedVariables false
set_option maxRecDepth 100000 in
theorem qWm : jDp (2 ^ 70) = some true := by kernel_rfl
theorem qKm {N : Nat} {p : GPost} : ∃ b, jH1 N p = some b := ⟨_, rfl⟩
theorem qK0 {N : Nat} {x : List GPost} (hN : 2000 ≤ N) : ∃ b, jGm N x = some b ∧ (b = false → x.length ≤ 40) := by
  unfold jGm jHn
  rw [jYf]
  by_cases h : (40 : Int) < x.length
  · rw [dT h]; exact ⟨true, rfl, (fun h => by cases h)⟩
  · rw [dF h, cnF]
    obtain ⟨r, e, _⟩ := jWc (f := jKl N x) (fun s => ∃ i : Nat, s = i ∧ i ≤ x.length) (fun s => x.length - s.toNat) (fun _ => True) (by
      rintro s ⟨i, rfl, hi⟩
      unfold jKl
      by_cases hlt : i < x.length
      · obtain ⟨b, hb⟩ := qKm (N := N) (p := x[i])
        rw [jQx, dT (by omega), cnT, jK7 hlt, bS, hb, bS, jNk (by omega)]
        cases b
        · left; exact ⟨_, rfl, ⟨i + 1, rfl, by omega⟩, by omega⟩
        · right; exact ⟨_, rfl, trivial⟩
      · right; exact ⟨_, by rw [jQx, dF (by omega), cnF], trivial⟩) N 0 ⟨0, rfl, by omega⟩ (by omega)
    rw [e]
    cases r with
    | inl u => exact ⟨false, rfl, fun _ => by omega⟩
    | inr b => exact ⟨b, rfl, fun _ => by omega⟩
theorem mod_eq {N : Nat} {x n : Int} (h : 1 ≤ n) (h1 : n ≤ 1000000) (hx : -9223372036854775808 ≤ x ∧ x ≤ 9223372036854775807) : ∃ k : Nat, jBw N x n = some (k : Int) ∧ (k : Int) < n := by
  unfold jBw remI
  rw [if_neg (by omega), bS, jQx]
  have h2 := Int.tmod_lt_of_pos x (show 0 < n by omega)
  have h3 : -n < x.tmod n := by
    have := Int.tmod_lt_of_pos (-x) (show 0 < n by omega)
    rw [Int.neg_tmod] at this; omega
  by_cases hn : x.tmod n < 0
  · rw [dT hn, cnT, jBk (by omega) (by omega)]
    exact ⟨(x.tmod n + n).toNat, by rw [Int.toNat_of_nonneg (by omega)], by omega⟩
  · rw [dF hn, cnF]
    exact ⟨(x.tmod n).toNat, by rw [Int.toNat_of_nonneg (by omega)], by omega⟩
theorem qUh {a : jJh} : jJh.eqb a a = true := by unfold jJh.eqb; simp
theorem qKs {a : jJv} : jJv.eqb a a = true := by unfold jJv.eqb; simp
theorem qX7 {N : Nat} (hN : 2000 ≤ N) {A : List jJh} (hA : A.length ≤ 400) : jZq (jXs N (A, 0) (A, 0)) N 0 = some (.inl ()) := by
  refine jF3 (f := jXs N (A, 0) (A, 0)) A.length (.inl ()) (fun _ => True) (fun i hi _ => .inl ⟨?_, trivial⟩) (fun _ => ?_) trivial N (by omega)
  · unfold jXs
    dsimp only
    rw [jQx, dT (by omega), cnT, jK7 hi, bS, bS, qUh, jNk (by omega)]; rfl
  · unfold jXs
    dsimp only
    rw [jQx, dF (by omega), cnF]
theorem law_TopCrashedBook (x0 : List GPost) (x1 : Int) (h0 : gL GPost.ok x0) (h1 : gI .i64 x1) : jYw (2 ^ 70) x0 x1 = some true := by
  have hten := qWm
  have hN : (4000 : Nat) ≤ 2 ^ 70 := by decide
  have hx : -9223372036854775808 ≤ x1 ∧ x1 ≤ 9223372036854775807 := h1
  generalize (2 : Nat) ^ 70 = N at *
  unfold jYw
  obtain ⟨b, hb, hb2⟩ := qK0 (N := N) (x := x0) (by omega)
  rw [hb, bS]
  cases b with
  | true => rw [cnT, hten]; rfl
  | false =>
    have hl := hb2 rfl
    obtain ⟨m, g, o, it, gn, hL, v, hm, B⟩ := qZn (N := N) (x := x0) (by omega) hN
    rw [cnF, hL, bS]
    have hj := jP8 (N := N) B v (by omega) (by omega)
    have hc := qYs v
    have hjl := jTc (l := m) (a := 1) hc ⟨by decide, by decide⟩
    unfold jHr
    dsimp only
    rw [hj, bS, jBk (by omega) (by omega)]
    obtain ⟨k, hk, hk2⟩ := mod_eq (N := N) (x := x1) (n := ((unj (jl 1 m)).length : Int) + 1) (by omega) (by omega) hx
    have hslc : slc (unj (jl 1 m)) (0 : Int) (k : Int) = some ((unj (jl 1 m)).take k) := by
      have := slcN (l := unj (jl 1 m)) (a := 0) (b := k) (Nat.zero_le _) (by omega)
      rw [List.drop_zero] at this; exact this
    rw [hk, bS, hslc, bS]
    obtain ⟨t, y, ht, he, hy⟩ := jAx (l := jl 1 m) k (jl_no hc)
    rw [qKh] at ht
    have vt : Vl Nm (m.take t) := Vl.left (r := m.drop t) (by rw [List.take_append_drop]; exact v)
    have hle : ((unj (jl 1 m)).take k).length ≤ k := by rw [List.length_take]; omega
    rw [he, jCr] at hle
    obtain ⟨g', o', it', gn', hR, B'⟩ := qJ3 (N := N) (by omega) (y := y) vt (by rw [List.length_take]; omega) (by omega) hy
    rw [he, jCr, hR, bS]
    dsimp only
    rw [List.length_append] at hle
    rw [jYf, dF (by omega)]
    simp only [Bool.or_self, cnF]
    have hposts : jV0 N g' o' it' gn' = some (m.take t) := by
      unfold jV0 jX6
      rw [B'.posts, jMq (by simp; omega)]; rfl
    rw [hposts, bS, jYf, List.length_take, Nat.min_eq_left ht, dF (by omega), cnF]
    -- the entries that were lost
    obtain ⟨q, hq, B2⟩ : ∃ q, jZq (jZk N m) N ((t : Int), g', o', it', gn') = some (.inl q) ∧ jHm q.1 q.2.1 q.2.2.1 q.2.2.2 m := by
      obtain ⟨r, e, hr⟩ := jWc (f := jZk N m) (fun s => ∃ i : Nat, s.1 = i ∧ i ≤ m.length ∧ jHm s.2.1 s.2.2.1 s.2.2.2.1 s.2.2.2.2 (m.take i)) (fun s => m.length - s.1.toNat) (fun r => ∃ q, r = .inl q ∧ jHm q.1 q.2.1 q.2.2.1 q.2.2.2 m) (by
        rintro ⟨s, a1, a2, a3, a4⟩ ⟨i, hs, hi, Bi⟩
        dsimp only at hs Bi
        subst hs
        unfold jZk
        dsimp only
        by_cases hlt : i < m.length
        · left
          obtain ⟨hA, htk⟩ := v.okA (by omega) hlt
          have vi : Vl Nm (m.take i) := Vl.left (r := m.drop i) (by rw [List.take_append_drop]; exact v)
          obtain ⟨b1, b2, b3, b4, n, e', he', hr⟩ := post_eq (N := N) Bi vi (by rw [List.length_take]; omega) (by omega) m[i]!
          rcases hr with ⟨_, rfl, hn, Bn⟩ | ⟨hno, _⟩
          · rw [List.length_take, Nat.min_eq_left hi] at hn
            rw [jQx, dT (by omega), cnT, jSv hlt, bS, he', bS]
            dsimp only
            rw [jVx, jVx, dT rfl, jNk (by omega), dT (show n = ((i + 1 : Nat) : Int) by omega)]
            exact ⟨_, rfl, ⟨i + 1, rfl, by omega, by rw [htk]; exact Bn⟩, by dsimp only; omega⟩
          · exact absurd hA hno
        · obtain rfl : i = m.length := by omega
          right
          rw [List.take_length] at Bi
          exact ⟨_, by rw [jQx, dF (by omega), cnF], _, rfl, Bi⟩) N ((t : Int), g', o', it', gn') ⟨t, rfl, ht, B'⟩ (by dsimp only; omega)
      obtain ⟨q, rfl, hq⟩ := hr
      exact ⟨q, e, hq⟩
    rw [hq, bS, Sum.elim_inl]
    rw [jP8 (N := N) B2 v (by omega) (by omega), bS, jDx, dT rfl]
    simp only [Bool.not_true, cnF]
    rw [qGj (N := N) B2 v (by omega) (by omega), bS]
    have vr : Vl Nm (jGg m) := qUs v (by omega) m.length (Nat.le_refl _)
    have hrl := jTe (m := m)
    obtain ⟨d1, d2, d3, d4, hD, D⟩ := qQ7 (N := N) vr (by omega) (by omega)
    rw [hD, bS]
    dsimp only
    rw [jVx, dT rfl]
    simp only [Bool.not_true, Bool.or_self, cnF]
    have hloop : jZq (jXr N m (g, o, it, gn) (d1, d2, d3, d4)) N 0 = some (.inl ()) := by
      refine jF3 (f := jXr N m (g, o, it, gn) (d1, d2, d3, d4)) m.length (.inl ()) (fun _ => True) (fun i hi _ => .inl ⟨?_, trivial⟩) (fun _ => ?_) trivial N (by omega)
      · unfold jXr
        dsimp only
        have hidx : idx m (i : Int) = some (pAt m (i + 1)) := by
          have := jGs (m := m) (n := (i : Int) + 1) (by omega) (by omega)
          rw [show (i : Int) + 1 - 1 = i by omega] at this; exact this
        simp only [hidx, bS]
        rw [jQx, dT (by omega), cnT, jVx, jBk (n := (i : Int) + 1) (by omega) (by omega)]
        by_cases h0 : (pAt m (i + 1)).Op = 0
        · rw [dT h0]
          simp only [Bool.not_true, Bool.not_false, cnT, Bool.false_or]
          rw [jR4 v.base (by omega) (i + 1) _ N (by omega) (by omega) (by omega) (by omega), bS]
          cases hlv : jWj m (i + 1) with
          | false => rfl
          | true =>
            obtain ⟨s1, s2, s3⟩ := qJh v (n := (i : Int) + 1) (by omega) (by omega) h0 hlv
            obtain ⟨e1, e2⟩ := qVe v (pAt m (i + 1)).Order
            have hal := (jF1 (N := N) B v (by omega) (by omega) s3).2.1
            simp only [Bool.not_true, cnF]
            rw [jPg (N := N) B v (by omega) (by omega) s3, if_pos s1, bS, jPg (N := N) D vr (by omega) (by omega) s3, if_pos s2, bS, jNy (N := N) B v (by omega) (by omega) s3, if_pos s1, bS, jNy (N := N) D vr (by omega) (by omega) s3, if_pos s2, bS, e1, e2]
            dsimp only
            rw [qKs, jVx, dT (show IntKind.i64.wrap (IntKind.i64.wrap (IntKind.i64.wrap (0 + 0) + 0) + 0) = 0 by decide), jVx, dT rfl]
            simp only [Bool.not_true, Bool.or_self, cnF]
            rw [qX7 (by omega) (by omega)]; rfl
        · rw [dF h0]; rfl
      · unfold jXr
        dsimp only
        rw [jQx, dF (by omega), cnF]
    rw [hloop, bS, Sum.elim_inl, hten]; rfl
end Go.KB
