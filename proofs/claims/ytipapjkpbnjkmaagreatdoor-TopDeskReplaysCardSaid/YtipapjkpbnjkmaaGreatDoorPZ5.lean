/- The book's values and signatures are those of the entries that count. The invoices that cover charges. The accounts of an order are those of the entries that count. Accounts, balances, and what is left. Rest is what is left; orders that are live have the same accounts and balance there. No condition. -/
import Derived.Test.YtipapjkpbnjkmaaGreatDoorPZ4
import Derived.Test.YtipapjkpbnjkmaaGreatDoorPZ3
namespace Go.KB
set_option linter.unusedVariables false
theorem jC6 (m : List jJu) (j : Nat) : (jWz m j).Pairwise fun a b => a.1 < b.1 := by
 unfold jWz
 rw [List.pairwise_map]
 exact (List.pairwise_lt_range.filter _).imp fun h => by dsimp only; omega
theorem qVe {l : List (Int × jJu)} (hs : l.Pairwise fun a b => a.1 < b.1) {x : Int × jJu} (hx : x ∈ l) (hm : ∀ y ∈ l, y.1 ≤ x.1) : l.getLast? = some x := by
  rcases List.eq_nil_or_concat l with e | ⟨l', y, e⟩
  · rw [e] at hx; cases hx
  · rw [List.concat_eq_append] at e
    subst e
    rw [List.getLast?_concat]
    rw [List.mem_append] at hx
    rcases hx with hx | hx
    · have h1 := (List.pairwise_append.1 hs).2.2 x hx y (by simp)
      have h2 := hm y (by simp)
      omega
    · rw [List.mem_singleton] at hx; rw [hx]
theorem jDa {m : List jJu} {n : Int} (h : (pAt m n).Op ≠ 8) : jKm m n = jYu m n := by
 unfold jKm; rw [dF h]; simp
section
variable {N : Nat} {g0 : jJj} {o : List (Str × Int)} {it : List (jJz × Int)} {gn : List (Int × Bool)} {m : List jJu}
theorem jTf (B : jGb g0 o it gn m) (v : Vl Nm m) (hl : m.length ≤ 400) (hN : 2000 ≤ N) {n k : Int} (hn : 1 ≤ n) (hk : 1 ≤ k) (hk1 : k ≤ m.length + 1) :
    jZ9 N g0 o it gn n k = some (((jCe (jQy m) n k).map (·.1)).getD 0) := by
  unfold jZ9
  obtain ⟨r, e, h⟩ := jUx (f := jVj N g0 o it gn n) (fun s => 0 ≤ s ∧ s < k ∧ ∀ j : Int, s < j → j < k → n < j → ¬ ((pAt m j).Op = 5 ∧ (pAt m j).Ref = n ∧ jYu m j = true)) (fun s => s.toNat) (fun r => match r with | .inl _ => jCe (jQy m) n k = none | .inr x => jCe (jQy m) n k = some (x, pAt m x)) (by
    rintro s ⟨h0, h1, h2⟩
    unfold jVj
    by_cases hs : n < s
    · rw [jY9, dT hs, cnT, entry_eq B (by omega) (by omega) (by omega), bS, jV1, jV1, jDb (by omega) (by omega)]
      by_cases hq : (pAt m s).Op = 5 ∧ (pAt m s).Ref = n
      · rw [dT hq.1, dT hq.2, jBx B v.base (by omega) hN (by omega) (by omega)]
        simp only [Bool.and_self, cnT, bS, Bool.true_and]
        cases hv : jYu m s with
        | true =>
          right
          refine ⟨.inr s, rfl, ?_⟩
          unfold jCe
          refine qVe ((jC6 m _).filter _) (x := (s, pAt m s)) ?_ ?_
          · rw [List.mem_filter]
            refine ⟨jUh.2 ⟨by dsimp only; omega, by dsimp only; omega, by rw [jDa (n := s) (by rw [hq.1]; decide)]; exact hv, rfl⟩, ?_⟩
            simp [hs, h1, hq]
          · intro y hy
            rw [List.mem_filter] at hy
            obtain ⟨hy1, hy2⟩ := hy
            obtain ⟨a, b, c, d⟩ := jUh.1 hy1
            simp only [Bool.and_eq_true, decide_eq_true_eq] at hy2
            dsimp only
            apply Classical.byContradiction
            intro hc
            rw [d] at hy2
            exact h2 y.1 (by omega) hy2.1.1.2 (by omega) ⟨hy2.1.2, hy2.2, jLl c⟩
        | false =>
          left
          refine ⟨s - 1, rfl, ⟨by omega, by omega, fun j h3 h4 h5 => ?_⟩, by omega⟩
          by_cases hj : j = s
          · rw [hj, hv]; simp
          · exact h2 j (by omega) h4 h5
      · left
        rw [← Bool.decide_and, dF hq]
        refine ⟨s - 1, rfl, ⟨by omega, by omega, fun j h3 h4 h5 => ?_⟩, by omega⟩
        by_cases hj : j = s
        · rw [hj]; exact fun hc => hq ⟨hc.1, hc.2.1⟩
        · exact h2 j (by omega) h4 h5
    · right
      refine ⟨.inl (), by rw [jY9, dF hs, cnF], ?_⟩
      show jCe (jQy m) n k = none
      unfold jCe
      rw [List.getLast?_eq_none_iff, List.filter_eq_nil_iff]
      intro y hy
      obtain ⟨a, b, c, d⟩ := jUh.1 hy
      simp only [Bool.and_eq_true, decide_eq_true_eq]
      rintro ⟨⟨⟨c1, c2⟩, c3⟩, c4⟩
      rw [d] at c3 c4
      exact h2 y.1 (by omega) c2 c1 ⟨c3, c4, jLl c⟩) N (k - 1) ⟨by omega, by omega, fun j h1 h2 => by omega⟩ (by omega)
  rw [jDb (by omega) (by omega), e, bS]
  cases r with
  | inl u => rw [show jCe (jQy m) n k = none from h]; rfl
  | inr x => rw [show jCe (jQy m) n k = some (x, pAt m x) from h]; rfl
theorem jCc {n k : Int} {e : Int × jJu} (h : jCe (jQy m) n k = some e) : n < e.1 ∧ e.1 < k ∧ 1 ≤ e.1 ∧ e.1 ≤ m.length ∧ e.2 = pAt m e.1 := by
 have h1 := List.mem_of_getLast? h
 rw [List.mem_filter] at h1
 obtain ⟨a, b, c, d⟩ := jUh.1 h1.1
 simp only [Bool.and_eq_true, decide_eq_true_eq] at h1
 exact ⟨h1.2.1.1.1, h1.2.1.1.2, a, b, d⟩
theorem qJy (B : jGb g0 o it gn m) (v : Vl Nm m) (hl : m.length ≤ 400) (hN : 2000 ≤ N) {n k : Int} (hn : 1 ≤ n) (hn1 : n ≤ m.length) (hk : 1 ≤ k) (hk1 : k ≤ m.length + 1) :
  jVb N g0 o it gn n k = some (jS0 (jQy m) (n, pAt m n) k) := by
 unfold jVb jS0
 rw [jTf B v hl hN hn hk hk1, bS]
 cases h : jCe (jQy m) n k with
 | none =>
  show (bif jJb .gtr 0 0 then _ else _) = _
  rw [jY9, dF (by omega), cnF, entry_eq B (by omega) hn hn1]; rfl
 | some e =>
  obtain ⟨a, b, c, d, f⟩ := jCc h
  show (bif jJb .gtr e.1 0 then ((jQz N g0 o it gn e.1).bind fun v2 => some v2.Amount) else _) = _
  rw [jY9, dT (by omega), cnT, entry_eq B (by omega) c d, ← f]; rfl
theorem qZ6 {q : Int × jJu → Bool} {j : Nat} : ∀ (d : Nat), (∀ i : Int, (j : Int) < i → q (i, pAt m i) = false) → (jWz m (j + d)).filter q = (jWz m j).filter q := by
 intro d
 induction d with
 | zero => intro _; rfl
 | succ d ih =>
  intro h
  rw [show j + (d + 1) = (j + d) + 1 by omega, jU8, List.filter_append, ih h]
  split
  ·rw [show List.filter q [(((j + d : Nat) : Int) + 1, pAt m (((j + d : Nat) : Int) + 1))] = [] by
    rw [List.filter_eq_nil_iff]
    intro x hx
    rw [List.mem_singleton] at hx
    rw [hx, h _ (by omega)]; decide]
   rw [List.append_nil]
  ·rw [List.filter_nil, List.append_nil]
theorem qZl {q : Int × jJu → Bool} {j : Nat} (hj : j ≤ m.length) (h : ∀ i : Int, (j : Int) < i → q (i, pAt m i) = false) : (jQy m).filter q = (jWz m j).filter q := by
 have := qZ6 (m := m) (q := q) (j := j) (m.length - j) h
 rw [show j + (m.length - j) = m.length by omega] at this
 exact this
theorem qQ7 (B : jGb g0 o it gn m) (v : Vl Nm m) (hl : m.length ≤ 400) (hN : 2000 ≤ N) {n k : Int} (hn : 1 ≤ n) (hk : n < k) (hk1 : k ≤ m.length + 1) :
    jX6 N g0 o it gn n k = some ((qX5 (jQy m) n k).map (·.1)) := by
  unfold jX6
  rw [jTf B v hl hN hn (by omega) hk1, bS]
  have hlow : max n (((jCe (jQy m) n k).map (·.1)).getD 0) = qY2 (jQy m) n k ∧ n ≤ qY2 (jQy m) n k ∧ qY2 (jQy m) n k < k := by
    unfold qY2
    cases h : jCe (jQy m) n k with
    | none => refine ⟨?_, ?_, ?_⟩ <;> simp <;> omega
    | some e =>
      obtain ⟨a, b, c, d, f⟩ := jCc h
      refine ⟨?_, ?_, ?_⟩ <;> simp <;> omega
  obtain ⟨e1, e2, e3⟩ := hlow
  rw [e1, jDb (by omega) (by omega)]
  have hE : (qX5 (jQy m) n k) = (jWz m (k - 1).toNat).filter fun e => decide (qY2 (jQy m) n k < e.1) && decide (e.1 < k) && decide (e.2.Op = 4) && decide (e.2.Ref = n) := by
    unfold qX5
    refine qZl (by omega) fun i hi => ?_
    dsimp only
    rw [dF (show ¬ i < k by omega)]; simp
  rw [hE]
  generalize qY2 (jQy m) n k = lo at *
  have hstep : ∀ i : Nat, lo ≤ i → (i : Int) < k - 1 + 1 → i < (k - 1).toNat + 1 → ∀ acc : List Int, acc.length ≤ i →
      (i : Int) + 1 < k → jXv N g0 o it gn n k (acc, ((i : Int) + 1)) = some (.inl (acc ++ (((if jKm m (i + 1) = true then [((i : Int) + 1, pAt m (i + 1))] else []).filter fun e => decide (lo < e.1) && decide (e.1 < k) && decide (e.2.Op = 4) && decide (e.2.Ref = n)).map (·.1)), ((i : Int) + 1 + 1))) := by
    intro i h0 h1 h2 acc ha h3
    unfold jXv
    dsimp only
    rw [jQa, dT h3, cnT, entry_eq B (by omega) (by omega) (by omega), bS, jV1, jV1, jDb (by omega) (by omega)]
    by_cases hq : (pAt m (i + 1)).Op = 4 ∧ (pAt m (i + 1)).Ref = n
    · rw [dT hq.1, dT hq.2, jBx B v.base (by omega) hN (by omega) (by omega), jDa (by omega)]
      simp only [Bool.and_self, cnT, bS, Bool.true_and]
      cases hv : jYu m (i + 1) with
      | true =>
        rw [cnT, jDy (by simp; omega), bS, if_pos rfl, List.filter_cons_of_pos (by simp [hq]; omega)]; rfl
      | false =>
        rw [cnF, if_neg (by decide), List.filter_nil, List.map_nil, List.append_nil]
    · rw [← Bool.decide_and, dF hq]
      simp only [cnF, bS, Bool.false_and]
      rw [show (List.filter (fun e => decide (lo < e.1) && decide (e.1 < k) && decide (e.2.Op = 4) && decide (e.2.Ref = n)) (if jKm m (i + 1) = true then [((i : Int) + 1, pAt m (i + 1))] else [])) = [] by
        rw [List.filter_eq_nil_iff]
        intro x hx
        split at hx
        · rw [List.mem_singleton] at hx
          rw [hx]
          simp only [Bool.and_eq_true, decide_eq_true_eq]
          exact fun hc => hq ⟨hc.1.2, hc.2⟩
        · cases hx]
      rw [List.map_nil, List.append_nil]
  have hlen : ∀ i : Nat, (((jWz m i).filter fun e => decide (lo < e.1) && decide (e.1 < k) && decide (e.2.Op = 4) && decide (e.2.Ref = n)).map (·.1)).length ≤ i := by
    intro i
    rw [List.length_map]
    refine Nat.le_trans (List.length_filter_le _ _) ?_
    unfold jWz
    rw [List.length_map]
    refine Nat.le_trans (List.length_filter_le _ _) ?_
    rw [List.length_range]; exact Nat.le_refl _
  have h0 : ((jWz m lo.toNat).filter fun e => decide (lo < e.1) && decide (e.1 < k) && decide (e.2.Op = 4) && decide (e.2.Ref = n)) = [] := by
    rw [List.filter_eq_nil_iff]
    intro x hx
    have := jUh.1 hx
    rw [dF (show ¬ lo < x.1 by omega)]; simp
  have := jM7 (f := jXv N g0 o it gn n k) (fun s => ∃ i : Nat, lo ≤ i ∧ i ≤ (k - 1).toNat ∧ s = ((((jWz m i).filter fun e => decide (lo < e.1) && decide (e.1 < k) && decide (e.2.Op = 4) && decide (e.2.Ref = n)).map (·.1)), (i : Int) + 1)) (fun s => (k - s.2).toNat) (((jWz m (k - 1).toNat).filter fun e => decide (lo < e.1) && decide (e.1 < k) && decide (e.2.Op = 4) && decide (e.2.Ref = n)).map (·.1)) (by
    rintro s ⟨i, h1, h2, rfl⟩
    by_cases hlt : (i : Int) + 1 < k
    · left
      rw [hstep i h1 (by omega) (by omega) _ (hlen i) hlt]
      refine ⟨_, rfl, ⟨i + 1, by omega, by omega, ?_⟩, by dsimp only; omega⟩
      rw [jU8, List.filter_append, List.map_append]
      rfl
    · right
      unfold jXv
      dsimp only
      rw [jQa, dF hlt, cnF, show i = (k - 1).toNat by omega]) N ([], lo + 1) ⟨lo.toNat, by omega, by omega, by rw [h0]; simp; omega⟩ (by dsimp only; omega)
  rw [this]; rfl
theorem jNk (B : jGb g0 o it gn m) (v : Vl Nm m) (hl : m.length ≤ 400) (hN : 2000 ≤ N) {n k role : Int} (hn : 1 ≤ n) (hk : n < k) (hk1 : k ≤ m.length + 1) :
    jZz N g0 o it gn n k role = some (qJr (jQy m) n k role) := by
  unfold jZz jXz jXb
  rw [qQ7 B v hl hN hn hk hk1, bS]
  unfold qJr
  have hmem : ∀ e ∈ qX5 (jQy m) n k, 1 ≤ e.1 ∧ e.1 ≤ m.length ∧ e.2 = pAt m e.1 := fun e he => by
    have := jUh.1 (List.mem_filter.1 he).1
    exact ⟨this.1, this.2.1, this.2.2.2⟩
  have hlen : (qX5 (jQy m) n k).length ≤ m.length := by
    refine Nat.le_trans (List.length_filter_le _ _) ?_
    unfold jQy jWz
    rw [List.length_map]
    refine Nat.le_trans (List.length_filter_le _ _) ?_
    rw [List.length_range]; exact Nat.le_refl _
  generalize qX5 (jQy m) n k = S at *
  obtain ⟨r, e, h⟩ := jUx (f := jQp N g0 o it gn (S.map (·.1)) role) (fun s => ∃ i : Nat, s = i ∧ i ≤ S.length ∧ ∀ e ∈ S.take i, e.2.Role ≠ role) (fun s => S.length - s.toNat) (fun r => match r with | .inl _ => (S.any fun e => decide (e.2.Role = role)) = false | .inr x => 0 ≤ x ∧ (S.any fun e => decide (e.2.Role = role)) = true) (by
    rintro s ⟨i, rfl, hi, h0⟩
    unfold jQp jWe
    rw [List.length_map]
    by_cases hlt : i < S.length
    · have hm := hmem S[i] (List.getElem_mem _)
      rw [jQa, dT (by omega), cnT, jKl (by rw [List.length_map]; exact hlt), bS, List.getElem_map, entry_eq B (by omega) hm.1 hm.2.1, bS, bS, jP8 (by omega), jV1, ← hm.2.2]
      by_cases hq : S[i].2.Role = role
      · right
        rw [dT hq]
        exact ⟨.inr i, rfl, by omega, by rw [List.any_eq_true]; exact ⟨S[i], List.getElem_mem _, decide_eq_true hq⟩⟩
      · left
        rw [dF hq]
        refine ⟨_, rfl, ⟨i + 1, rfl, by omega, fun x hx => ?_⟩, by omega⟩
        rw [List.take_succ_eq_append_getElem hlt, List.mem_append, List.mem_singleton] at hx
        rcases hx with hx | hx
        · exact h0 x hx
        · rw [hx]; exact hq
    · obtain rfl : i = S.length := by omega
      right
      refine ⟨.inl (), by rw [jQa, dF (by omega), cnF], ?_⟩
      show (S.any fun e => decide (e.2.Role = role)) = false
      rw [List.any_eq_false]
      intro x hx
      rw [List.take_length] at h0
      rw [decide_eq_true_eq]; exact h0 x hx) N 0 ⟨0, rfl, by omega, fun e he => by cases he⟩ (by omega)
  rw [e, bS]
  cases r with
  | inl u => rw [show (S.any fun e => decide (e.2.Role = role)) = false from h]; rfl
  | inr x =>
    rw [h.2]
    show (some (jJb .geq x 0)).bind _ = _
    rw [jB9, dT h.1]; rfl
end
end Go.KB
namespace Go.KB
set_option linter.unusedVariables false
def cvQ (m : List jJu) (x : Str) (n : Int) (e : Int × jJu) : Bool := decide (e.2.Op = 6) && decide (e.2.Order = x) && decide (n < e.1) && qJr (jQy m) n e.1 0
def cvV (m : List jJu) (x : Str) (i : Nat) (n : Int) : Int := ((((jWz m i).filter (cvQ m x n)).head?).map (·.1)).getD 0
def chg (m : List jJu) (x : Str) (n : Int) : Bool := decide ((pAt m n).Op = 3) && decide ((pAt m n).Order = x) && jYu m n
def cvS (m : List jJu) (x : Str) (i : Nat) (n : Int) : Int := if chg m x n = true then cvV m x i n else 0
theorem qKl {m : List jJu} {x : Str} {i : Nat} {n : Int} : cvV m x i n = 0 ↔ (jWz m i).filter (cvQ m x n) = [] := by
 unfold cvV
 cases h : (jWz m i).filter (cvQ m x n) with
 | nil => simp
 | cons e l =>
  have he : e ∈ (jWz m i).filter (cvQ m x n) := by rw [h]; exact List.mem_cons_self
  have := jUh.1 (List.mem_filter.1 he).1
  simp
  omega
theorem jCf {m : List jJu} {x : Str} {i : Nat} {n : Int} : cvV m x (i + 1) n = if cvV m x i n = 0 then (if jKm m (i + 1) = true ∧ cvQ m x n ((i : Int) + 1, pAt m (i + 1)) = true then (i : Int) + 1 else 0) else cvV m x i n := by
 by_cases hz : cvV m x i n = 0
 ·rw [if_pos hz]
  rw [qKl] at hz
  unfold cvV
  rw [jU8, List.filter_append, hz, List.nil_append]
  by_cases hk : jKm m (i + 1) = true
  ·rw [if_pos hk]
   by_cases hq : cvQ m x n ((i : Int) + 1, pAt m (i + 1)) = true
   ·rw [if_pos ⟨hk, hq⟩, List.filter_cons_of_pos hq]; rfl
   ·rw [if_neg (fun h => hq h.2), List.filter_cons_of_neg hq]; rfl
  ·rw [if_neg hk, if_neg (fun h => hk h.1)]; rfl
 ·rw [if_neg hz]
  unfold cvV at hz ⊢
  rw [jU8, List.filter_append]
  cases h : (jWz m i).filter (cvQ m x n) with
  | nil => rw [h] at hz; exact absurd rfl hz
  | cons e l => rfl
theorem qKz {m : List jJu} {x : Str} {i : Nat} {n : Int} : 0 ≤ cvV m x i n ∧ cvV m x i n ≤ i ∧ (cvV m x i n ≠ 0 → n < cvV m x i n) := by
 unfold cvV
 cases h : (jWz m i).filter (cvQ m x n) with
 | nil => simp
 | cons e l =>
  have he : e ∈ (jWz m i).filter (cvQ m x n) := by rw [h]; exact List.mem_cons_self
  have h1 := jUh.1 (List.mem_filter.1 he).1
  have h2 := (List.mem_filter.1 he).2
  unfold cvQ at h2
  simp only [Bool.and_eq_true, decide_eq_true_eq] at h2
  show 0 ≤ e.1 ∧ e.1 ≤ i ∧ (e.1 ≠ 0 → n < e.1)
  exact ⟨by omega, h1.2.1, fun _ => h2.1.2⟩
section
variable {N : Nat} {g0 : jJj} {o : List (Str × Int)} {it : List (jJz × Int)} {gn : List (Int × Bool)} {m : List jJu}
theorem qZm (B : jGb g0 o it gn m) (v : Vl Nm m) (hl : m.length ≤ 400) (hN : 2000 ≤ N) {x : Str} {i : Nat} (hi : i < m.length) (out : List (Int × Int)) (h6 : (pAt m (i + 1)).Op = 6) (hx : (pAt m (i + 1)).Order = x) (hlv : jYu m (i + 1) = true)
    (hout : ∀ n : Int, 1 ≤ n → n ≤ m.length → jXm 0 out n = cvS m x i n) :
    ∃ out', jZw (jX5 N g0 o it gn x (out, (i : Int))) N (out, 1) = some out' ∧ ∀ n : Int, 1 ≤ n → n ≤ m.length → jXm 0 out' n = cvS m x (i + 1) n := by
  have hk : jKm m ((i : Int) + 1) = true := by rw [jDa (by rw [h6]; decide)]; exact hlv
  have hq : ∀ n : Int, cvQ m x n ((i : Int) + 1, pAt m (i + 1)) = (decide (n < (i : Int) + 1) && qJr (jQy m) n ((i : Int) + 1) 0) := fun n => by
    unfold cvQ
    dsimp only
    rw [dT h6, dT hx]; simp
  refine jUx (f := jX5 N g0 o it gn x (out, (i : Int))) (fun s => ∃ t : Nat, 1 ≤ t ∧ t ≤ i + 1 ∧ s.2 = t ∧ ∀ n : Int, 1 ≤ n → n ≤ m.length → jXm 0 s.1 n = if n < t then cvS m x (i + 1) n else cvS m x i n) (fun s => i + 2 - s.2.toNat) _ ?_ N (out, 1) ⟨1, by omega, by omega, rfl, fun n h1 h2 => by rw [if_neg (by omega)]; exact hout n h1 h2⟩ (by dsimp only; omega)
  rintro ⟨u, s⟩ ⟨t, h1, h2, hs, hu⟩
  dsimp only at hs hu
  subst hs
  unfold jX5
  dsimp only
  by_cases hlt : t ≤ i
  · left
    rw [jBu, dT (by omega), cnT, entry_eq B (by omega) (by omega) (by omega), bS, jDb (n := (i : Int) + 1) (by omega) (by omega), jP8 (n := t) (by omega)]
    have hut := hu t (by omega) (by omega)
    rw [if_neg (by omega)] at hut
    have hsucc : cvS m x (i + 1) t = if chg m x t = true ∧ cvS m x i t = 0 ∧ qJr (jQy m) t ((i : Int) + 1) 0 = true then (i : Int) + 1 else cvS m x i t := by
      unfold cvS
      by_cases hc : chg m x t = true
      · rw [if_pos hc, if_pos hc, jCf, hq, dT (show (t : Int) < (i : Int) + 1 by omega), Bool.true_and]
        by_cases hz : cvV m x i t = 0
        · rw [if_pos hz, hz]
          by_cases hs : qJr (jQy m) t ((i : Int) + 1) 0 = true
          · rw [if_pos ⟨hk, hs⟩, if_pos ⟨hc, rfl, hs⟩]
          · rw [if_neg (fun h => hs h.2), if_neg (fun h => hs h.2.2)]
        · rw [if_neg hz, if_neg (fun h => hz h.2.1)]
      · rw [if_neg hc, if_neg hc, if_neg (fun h => hc h.1)]
    have hnew : ∀ w : List (Int × Int), jXm 0 w t = cvS m x (i + 1) t → (∀ n : Int, n ≠ t → jXm 0 w n = jXm 0 u n) → ∀ n : Int, 1 ≤ n → n ≤ m.length → jXm 0 w n = if n < ((t + 1 : Nat) : Int) then cvS m x (i + 1) n else cvS m x i n := fun w hw hw2 n hn1 hn2 => by
      by_cases hnt : n = t
      · rw [hnt, if_pos (by omega)]; exact hw
      · rw [hw2 n hnt, hu n hn1 hn2]
        by_cases hlt2 : n < t
        · rw [if_pos hlt2, if_pos (by omega)]
        · rw [if_neg hlt2, if_neg (by omega)]
    simp only [jV1, jVf]
    by_cases hA : ((pAt m t).Op = 3 ∧ (pAt m t).Order = x) ∧ jXm 0 u (t : Int) = 0
    · rw [dT hA.1.1, dT hA.1.2, dT hA.2]
      simp only [Bool.and_self, cnT, Bool.true_and]
      rw [jBx B v.base (by omega) hN (by omega) (by omega), bS]
      have hch : chg m x t = jYu m t := by unfold chg; rw [dT hA.1.1, dT hA.1.2]; simp
      cases hlt3 : jYu m t with
      | false =>
        rw [cnF, bS]
        refine ⟨_, rfl, ⟨t + 1, by omega, by omega, rfl, hnew u ?_ (fun n _ => rfl)⟩, by dsimp only; omega⟩
        rw [hut, hsucc, if_neg (fun h => by rw [hch, hlt3] at h; exact absurd h.1 (by decide))]
      | true =>
        rw [cnT, jNk B v hl hN (by omega) (by omega) (by omega), bS]
        cases hsg : qJr (jQy m) t ((i : Int) + 1) 0 with
        | false =>
          refine ⟨_, rfl, ⟨t + 1, by omega, by omega, rfl, hnew u ?_ (fun n _ => rfl)⟩, by dsimp only; omega⟩
          rw [hut, hsucc, if_neg (fun h => by rw [hsg] at h; exact absurd h.2.2 (by decide))]
        | true =>
          refine ⟨_, rfl, ⟨t + 1, by omega, by omega, rfl, hnew _ ?_ (fun n hn => by rw [jGa, if_neg hn])⟩, by dsimp only; omega⟩
          rw [jGa, if_pos rfl, hsucc, if_pos ⟨by rw [hch]; exact hlt3, hut ▸ hA.2, hsg⟩]
    · have hcond : (decide ((pAt m t).Op = 3) && decide ((pAt m t).Order = x) && decide (jXm 0 u (t : Int) = 0)) = false := by
        rw [← Bool.decide_and, ← Bool.decide_and, dF hA]
      rw [hcond]
      simp only [cnF, bS, Bool.false_and]
      refine ⟨_, rfl, ⟨t + 1, by omega, by omega, rfl, hnew u ?_ (fun n _ => rfl)⟩, by dsimp only; omega⟩
      rw [hut, hsucc, if_neg]
      rintro ⟨hc, hz, _⟩
      unfold chg at hc
      simp only [Bool.and_eq_true, decide_eq_true_eq] at hc
      exact hA ⟨hc.1, hut.trans hz⟩
  · right
    refine ⟨u, by rw [jBu, dF (by omega), cnF], fun n hn1 hn2 => ?_⟩
    rw [hu n hn1 hn2]
    by_cases hnt : n < t
    · rw [if_pos hnt]
    · rw [if_neg hnt]
      unfold cvS
      rw [jCf, hq, dF (show ¬ n < (i : Int) + 1 by omega)]
      by_cases hz : cvV m x i n = 0
      · rw [if_pos hz, hz]; simp
      · rw [if_neg hz]
theorem jRk (B : jGb g0 o it gn m) (v : Vl Nm m) (hl : m.length ≤ 400) (hN : 2000 ≤ N) (x : Str) : ∃ out, jZp N g0 o it gn x = some out ∧ ∀ n : Int, 1 ≤ n → n ≤ m.length → jXm 0 out n = cvS m x m.length n := by
  unfold jZp
  obtain ⟨r, e, h⟩ := jUx (f := jZ2 N g0 o it gn x) (fun s => ∃ i : Nat, s.2 = i ∧ i ≤ m.length ∧ ∀ n : Int, 1 ≤ n → n ≤ m.length → jXm 0 s.1 n = cvS m x i n) (fun s => m.length - s.2.toNat) (fun out => ∀ n : Int, 1 ≤ n → n ≤ m.length → jXm 0 out n = cvS m x m.length n) (by
    rintro ⟨u, s⟩ ⟨i, hs, hi, hu⟩
    dsimp only at hs hu
    subst hs
    unfold jZ2
    dsimp only
    rw [B.posts]
    by_cases hlt : i < m.length
    · left
      have hidx : idx m (i : Int) = some (pAt m (i + 1)) := by
        have := jL1 (m := m) (n := (i : Int) + 1) (by omega) (by omega)
        rw [show (i : Int) + 1 - 1 = i by omega] at this; exact this
      rw [jQa, dT (by omega), cnT, hidx, bS, jDb (n := (i : Int) + 1) (by omega) (by omega), jYl, jH3]
      have hskip : ¬ ((pAt m (i + 1)).Op = 6 ∧ (pAt m (i + 1)).Order = x ∧ jYu m (i + 1) = true) → ∀ n : Int, cvS m x (i + 1) n = cvS m x i n := fun hno n => by
        unfold cvS
        rw [jCf]
        by_cases hz : cvV m x i n = 0
        · have hn2 : ¬ (jKm m ((i : Int) + 1) = true ∧ cvQ m x n ((i : Int) + 1, pAt m ((i : Int) + 1)) = true) := by
            rintro ⟨hk, hq⟩
            unfold cvQ at hq
            simp only [Bool.and_eq_true, decide_eq_true_eq] at hq
            exact hno ⟨hq.1.1.1, hq.1.1.2, jLl hk⟩
          rw [if_pos hz, hz, if_neg hn2]
        · rw [if_neg hz]
      by_cases hA : (pAt m (i + 1)).Op = 6 ∧ (pAt m (i + 1)).Order = x
      · rw [dT hA.1, dT hA.2]
        simp only [Bool.not_true, Bool.or_self, Bool.not_false, cnT]
        rw [jBx B v.base (by omega) hN (by omega) (by omega), bS]
        cases hv : jYu m (i + 1) with
        | false =>
          refine ⟨_, rfl, ⟨i + 1, rfl, by omega, fun n h1 h2 => ?_⟩, by dsimp only; omega⟩
          rw [hskip (fun h => by rw [hv] at h; exact absurd h.2.2 (by decide))]; exact hu n h1 h2
        | true =>
          obtain ⟨out', he, ho⟩ := qZm (N := N) B v hl hN hlt u hA.1 hA.2 hv hu
          simp only [Bool.not_true, Bool.or_self, cnF]
          rw [he]
          exact ⟨_, rfl, ⟨i + 1, rfl, by omega, ho⟩, by dsimp only; omega⟩
      · have hc : (!decide ((pAt m (i + 1)).Op = 6) || !decide ((pAt m (i + 1)).Order = x)) = true := by
          rw [← Bool.not_and, ← Bool.decide_and, dF hA]; rfl
        rw [hc]
        refine ⟨_, rfl, ⟨i + 1, rfl, by omega, fun n h1 h2 => ?_⟩, by dsimp only; omega⟩
        rw [hskip (fun h => hA ⟨h.1, h.2.1⟩)]; exact hu n h1 h2
    · obtain rfl : i = m.length := by omega
      right
      exact ⟨u, by rw [jQa, dF (by omega), cnF], hu⟩) N ([], 0) ⟨0, rfl, by omega, fun n h1 h2 => by
        show (0 : Int) = cvS m x 0 n
        unfold cvS cvV jWz
        split <;> rfl⟩ (by dsimp only; omega)
  rw [e]
  exact ⟨r, rfl, h⟩
theorem qVx {x : Str} {n : Int} : jC7 (jQy m) x (n, pAt m n) = if cvV m x m.length n = 0 then 0 else jS0 (jQy m) (n, pAt m n) (cvV m x m.length n) := by
 unfold jC7 covO
 show (match ((jWz m m.length).filter (cvQ m x n)).head? with | some c => jS0 (jQy m) (n, pAt m n) c.1 | none => 0) = _
 unfold cvV
 cases h : (jWz m m.length).filter (cvQ m x n) with
 | nil => rfl
 | cons e l =>
  have he : e ∈ (jWz m m.length).filter (cvQ m x n) := by rw [h]; exact List.mem_cons_self
  have h1 := jUh.1 (List.mem_filter.1 he).1
  show jS0 (jQy m) (n, pAt m n) e.1 = if e.1 = 0 then 0 else jS0 (jQy m) (n, pAt m n) e.1
  rw [if_neg (by omega)]
end
end Go.KB
namespace Go.KB
set_option linter.unusedVariables false
instance : Inhabited jJn := ⟨⟨[], 0, 0, 0, 0, 0, 0⟩⟩
theorem jRb {f : jJn → jJn} : ∀ {l : List jJn} {j : Nat} (h : j < l.length), qQ0 f l j = l.set j (f l[j]!)
 | [], _, h => by cases h
 | a :: l, 0, _ => rfl
 | a :: l, j + 1, h => by
  have hj : j < l.length := Nat.lt_of_succ_lt_succ h
  show a :: qQ0 f l j = a :: l.set j (f (a :: l)[j + 1]!)
  rw [jRb hj, jRg hj, jRg h]; rfl
theorem jRd {f : jJn → jJn} : ∀ {l : List jJn} {j : Nat}, (qQ0 f l j).length = l.length
 | [], _ => rfl
 | a :: l, 0 => rfl
 | a :: l, j + 1 => by show (qQ0 f l j).length + 1 = l.length + 1; rw [jRd]
theorem jNj {f : jJn → jJn} {b : jJn} : ∀ {l : List jJn} {j : Nat}, b ∈ qQ0 f l j → b ∈ l ∨ ∃ a ∈ l, b = f a
 | [], _, h => by cases h
 | a :: l, 0, h => by
  rcases List.mem_cons.1 h with h | h
  ·exact .inr ⟨a, List.mem_cons_self, h⟩
  ·exact .inl (List.mem_cons_of_mem _ h)
 | a :: l, j + 1, h => by
  rcases List.mem_cons.1 h with h | h
  ·exact .inl (by rw [h]; exact List.mem_cons_self)
  ·rcases jNj h with h | ⟨c, hc, h⟩
   ·exact .inl (List.mem_cons_of_mem _ h)
   ·exact .inr ⟨c, List.mem_cons_of_mem _ hc, h⟩
structure BdA (K : Int) (a : jJn) : Prop where
 es : -1000000000 ≤ a.Estimate ∧ a.Estimate ≤ 1000000000
 gr : -K ≤ a.Growth ∧ a.Growth ≤ K
 ch : -K ≤ a.Charged ∧ a.Charged ≤ K
 si : -K ≤ a.Signed ∧ a.Signed ≤ K
 bi : -K ≤ a.Billed ∧ a.Billed ≤ K
theorem BdA.mono {K L : Int} {a : jJn} (h : BdA K a) (hl : K ≤ L) : BdA L a := ⟨h.es, by have := h.gr; omega, by have := h.ch; omega, by have := h.si; omega, by have := h.bi; omega⟩
section
variable {N : Nat} {g0 : jJj} {o : List (Str × Int)} {it : List (jJz × Int)} {gn : List (Int × Bool)} {m : List jJu}
theorem qZa {p : jJu} (h : Okp Nm p) : -1000000000 ≤ p.Amount ∧ p.Amount ≤ 1000000000 := by
 have := h.amt
 split at this
 ·omega
 ·split at this
  ·omega
  ·split at this <;> omega
theorem qKv (v : Vl Nm m) {n k : Int} (h : 1 ≤ n) (h1 : n ≤ m.length) : -1000000000 ≤ jS0 (jQy m) (n, pAt m n) k ∧ jS0 (jQy m) (n, pAt m n) k ≤ 1000000000 := by
 unfold jS0
 cases hl : jCe (jQy m) n k with
 | none => exact qZa (v.at h h1)
 | some e =>
  obtain ⟨_, _, c, d, f⟩ := jCc hl
  show -1000000000 ≤ e.2.Amount ∧ e.2.Amount ≤ 1000000000
  rw [f]; exact qZa (v.at c d)
theorem qU1 (v : Vl Nm m) {x : Str} {n : Int} (h : 1 ≤ n) (h1 : n ≤ m.length) : -1000000000 ≤ jC7 (jQy m) x (n, pAt m n) ∧ jC7 (jQy m) x (n, pAt m n) ≤ 1000000000 := by
 rw [qVx]
 split
 ·omega
 ·exact qKv v h h1
structure qVl (m : List jJu) (x : Str) (i : Nat) (s : qQ2) : Prop where
 is : s = (jWz m i).foldl (jCt (jQy m) x ((m.length : Int) + 1)) ([], [])
 len : s.1.length ≤ i
 at_ : ∀ n : Int, 1 ≤ n → n ≤ i → jKm m n = true → (pAt m n).Op = 1 → (pAt m n).Order = x → 0 ≤ jXm 0 s.2 (pAt m n).Item ∧ jXm 0 s.2 (pAt m n).Item < s.1.length
 bd : ∀ a ∈ s.1, BdA ((i : Int) * 1000000000) a
theorem jA0 {x : Str} {i : Nat} {s : qQ2} (h : qVl m x i s) (hs : ¬ (jKm m (i + 1) = true ∧ (pAt m (i + 1)).Order = x)) : qVl m x (i + 1) s where
 is := by
  rw [jU8, List.foldl_append, ← h.is]
  by_cases hk : jKm m (i + 1) = true
  ·rw [if_pos hk]
   show s = jCt (jQy m) x _ s ((i : Int) + 1, pAt m (i + 1))
   unfold jCt
   rw [if_neg (fun e => hs ⟨hk, e⟩)]
  ·rw [if_neg hk]; rfl
 len := by have := h.len; omega
 at_ := fun n h1 h2 h3 h4 h5 => by
  by_cases hn : n = (i : Int) + 1
  ·rw [hn] at h3 h5; exact absurd ⟨h3, h5⟩ hs
  ·exact h.at_ n h1 (by omega) h3 h4 h5
 bd := fun a ha => (h.bd a ha).mono (by omega)
theorem jA2 {x : Str} {i : Nat} {s : qQ2} (h : qVl m x i s) (hk : jKm m (i + 1) = true) : (jWz m (i + 1)).foldl (jCt (jQy m) x ((m.length : Int) + 1)) ([], []) = jCt (jQy m) x ((m.length : Int) + 1) s ((i : Int) + 1, pAt m (i + 1)) := by
 rw [jU8, List.foldl_append, ← h.is, if_pos hk]; rfl
theorem qXs {x : Str} {i : Nat} {s : qQ2} (h : qVl m x i s) (hk : jKm m (i + 1) = true) (h1 : (pAt m (i + 1)).Op ≠ 1) {f : jJn → jJn} {j : Nat} (hf : ∀ a, BdA ((i : Int) * 1000000000) a → BdA (((i + 1 : Nat) : Int) * 1000000000) (f a))
  (hE : jCt (jQy m) x ((m.length : Int) + 1) s ((i : Int) + 1, pAt m (i + 1)) = (qQ0 f s.1 j, s.2)) : qVl m x (i + 1) (qQ0 f s.1 j, s.2) where
 is := by rw [jA2 h hk, hE]
 len := by rw [jRd]; have := h.len; omega
 at_ := fun n h2 h3 h4 h5 h6 => by
  rw [jRd]
  by_cases hn : n = (i : Int) + 1
  ·rw [hn] at h5; exact absurd h5 h1
  ·exact h.at_ n h2 (by omega) h4 h5 h6
 bd := fun a ha => by
  rcases jNj ha with ha | ⟨b, hb, rfl⟩
  ·exact (h.bd a ha).mono (by omega)
  ·exact hf b (h.bd b hb)
theorem jA6 (v : Vl Nm m) {x : Str} {i : Nat} (hi : i < m.length) {s : qQ2} (h : qVl m x i s) (hk : jKm m (i + 1) = true) (h2 : (pAt m (i + 1)).Op = 2 ∨ (pAt m (i + 1)).Op = 3) (hx : (pAt m (i + 1)).Order = x) :
  ∃ j : Nat, jXm 0 s.2 (pAt m (i + 1)).Item = j ∧ j < s.1.length := by
 obtain ⟨l, r, e, hl, hok, href, hat, hbase⟩ := v.split (n := (i : Int) + 1) (by omega) (by omega)
 rw [qY3 h2] at href
 have hz := (jNb.1 href).1
 obtain ⟨a1, a2, a3, a4, a5⟩ := qXz hz
 have hb : jUy m (pAt m (i + 1)) = jFk l (pAt m (i + 1)).Order (pAt m (i + 1)).Item := by rw [hbase, jT8 h2]
 have hkb := jSu v (n := (i : Int) + 1) (by omega) (by omega) hk (by rw [hb]; exact hz)
 rw [hb] at hkb
 rw [hat _ a1 (by omega)] at a3 a4 a5
 have := h.at_ _ a1 (by omega) hkb a3 (a4.trans hx)
 rw [a5] at this
 exact ⟨(jXm 0 s.2 (pAt m (i + 1)).Item).toNat, by omega, by omega⟩
theorem qWy (B : jGb g0 o it gn m) (v : Vl Nm m) (hl : m.length ≤ 400) (hN : 2000 ≤ N) {x : Str} (hx0 : x ≠ []) {cov : List (Int × Int)} (hcov : ∀ n : Int, 1 ≤ n → n ≤ m.length → jXm 0 cov n = cvS m x m.length n) {i : Nat} (hi : i < m.length) {s : qQ2} (h : qVl m x i s) :
    ∃ s' : qQ2, jXh N g0 o it gn x cov ((m.length : Int) + 1) (s.1, s.2, (i : Int)) = some (.inl (s'.1, s'.2, ((i + 1 : Nat) : Int))) ∧ qVl m x (i + 1) s' := by
  have hidx : idx m (i : Int) = some (pAt m (i + 1)) := by
    have := jL1 (m := m) (n := (i : Int) + 1) (by omega) (by omega)
    rw [show (i : Int) + 1 - 1 = i by omega] at this; exact this
  unfold jXh
  dsimp only
  rw [B.posts, jQa, dT (by omega), cnT, hidx, bS, jDb (n := (i : Int) + 1) (by omega) (by omega), jH3]
  by_cases hx : (pAt m (i + 1)).Order = x
  · rw [dT hx]
    simp only [Bool.not_true, Bool.not_false, cnT, Bool.false_or]
    rw [jBx B v.base (by omega) hN (by omega) (by omega), bS]
    have hok := v.at (n := (i : Int) + 1) (by omega) (by omega)
    have hop8 : (pAt m (i + 1)).Op ≠ 8 ∧ (pAt m (i + 1)).Op ≠ 4 ∧ (pAt m (i + 1)).Op ≠ 5 := by
      have := hok.ord
      refine ⟨fun e => ?_, fun e => ?_, fun e => ?_⟩ <;> (rw [if_pos (by omega)] at this; exact hx0 (hx ▸ this))
    cases hv : jYu m (i + 1) with
    | false =>
      refine ⟨s, rfl, jA0 h ?_⟩
      rw [jDa hop8.1, hv]
      exact fun hc => absurd hc.1 (by decide)
    | true =>
      have hk : jKm m (i + 1) = true := by rw [jDa hop8.1]; exact hv
      have hin : ((i : Int) + 1, pAt m (i + 1)) = (((i : Int) + 1 : Int), pAt m ((i : Int) + 1)) := rfl
      simp only [Bool.not_true, cnF]
      rw [qJy B v hl hN (by omega) (by omega) (by omega) (Int.le_refl _), bS]
      have hvb := qKv v (n := (i : Int) + 1) (k := (m.length : Int) + 1) (by omega) (by omega)
      have hvb' : jS0 (jQy m) ((i : Int) + 1, pAt m (i + 1)) ((m.length : Int) + 1) = jS0 (jQy m) ((i : Int) + 1, pAt m (i + 1)) ((m.length : Int) + 1) := rfl
      generalize hV : jS0 (jQy m) ((i : Int) + 1, pAt m (i + 1)) ((m.length : Int) + 1) = V at *
      have hlen := h.len
      simp only [jV1]
      by_cases h1 : (pAt m (i + 1)).Op = 1
      · rw [dT h1, cnT, jDy (by simp; omega), bS]
        refine ⟨(s.1 ++ [⟨(pAt m (i + 1)).Item, V, 0, 0, 0, 0, 0⟩], jHg s.2 (pAt m (i + 1)).Item s.1.length), rfl, ?_, ?_, ?_, ?_⟩
        · rw [jA2 h hk]
          unfold jCt
          rw [if_pos hx, if_pos h1, hV]
        · simp; omega
        · intro n a1 a2 a3 a4 a5
          rw [jGa, List.length_append, List.length_singleton]
          by_cases hit : (pAt m n).Item = (pAt m (i + 1)).Item
          · rw [if_pos hit]; omega
          · rw [if_neg hit]
            have hn : n ≠ (i : Int) + 1 := fun e => hit (by rw [e])
            have := h.at_ n a1 (by omega) a3 a4 a5
            omega
        · intro a ha
          rw [List.mem_append, List.mem_singleton] at ha
          rcases ha with ha | ha
          · exact (h.bd a ha).mono (by omega)
          · rw [ha]
            exact ⟨hvb, by dsimp only; omega, by dsimp only; omega, by dsimp only; omega, by dsimp only; omega⟩
      · rw [dF h1, cnF]
        by_cases h2 : (pAt m (i + 1)).Op = 2
        · rw [dT h2, cnT, jNk B v hl hN (by omega) (by omega) (Int.le_refl _), bS]
          cases hsg : qJr (jQy m) ((i : Int) + 1) ((m.length : Int) + 1) 1 with
          | false =>
            refine ⟨s, rfl, ?_, by have := h.len; omega, fun n a1 a2 a3 a4 a5 => ?_, fun a ha => (h.bd a ha).mono (by omega)⟩
            · rw [jA2 h hk]
              unfold jCt
              rw [if_pos hx, if_neg h1, if_pos h2, hsg]; rfl
            · by_cases hn : n = (i : Int) + 1
              · rw [hn] at a4; exact absurd a4 h1
              · exact h.at_ n a1 (by omega) a3 a4 a5
          | true =>
            obtain ⟨j, hj, hjl⟩ := jA6 v hi h hk (.inl h2) hx
            have hb := h.bd _ (List.getElem_mem hjl)
            have hg := hb.gr
            rw [cnT, hj, jKl hjl, bS, bS, jDb (by omega) (by omega)]
            refine ⟨(qQ0 (fun a => { a with Growth := a.Growth + V }) s.1 j, s.2), ?_, ?_⟩
            · dsimp only
              rw [jRb hjl, jRg hjl]; rfl
            · refine qXs h hk h1 (fun a ha => ⟨ha.es, ?_, ?_, ?_, ?_⟩) ?_
              · have := ha.gr; dsimp only; omega
              · have := ha.ch; dsimp only; omega
              · have := ha.si; dsimp only; omega
              · have := ha.bi; dsimp only; omega
              · unfold jCt
                rw [if_pos hx, if_neg h1, if_pos h2, hsg, if_pos rfl, hV, hj]; rfl
        · rw [dF h2, cnF]
          by_cases h3 : (pAt m (i + 1)).Op = 3
          · obtain ⟨j, hj, hjl⟩ := jA6 v hi h hk (.inr h3) hx
            have hb := h.bd _ (List.getElem_mem hjl)
            have hbc := hb.ch
            have hbs := hb.si
            have hbb := hb.bi
            have hbill := qU1 v (x := x) (n := (i : Int) + 1) (by omega) (by omega)
            have hbe := qVx (m := m) (x := x) (n := (i : Int) + 1)
            have hcv := hcov ((i : Int) + 1) (by omega) (by omega)
            have hch : chg m x ((i : Int) + 1) = true := by unfold chg; rw [dT h3, dT hx, hv]; rfl
            have hcv2 := qKz (m := m) (x := x) (i := m.length) (n := (i : Int) + 1)
            unfold cvS at hcv
            rw [if_pos hch] at hcv
            rw [dT h3, cnT, hj, jKl hjl, bS, jDb (n := s.1[j].Charged + V) (by omega) (by omega), jNk B v hl hN (by omega) (by omega) (Int.le_refl _), bS, hcv]
            have hset : ∀ y : jJn, idx (s.1.set j y) (j : Int) = some y := fun y => by
              rw [jKl (by rw [List.length_set]; exact hjl), List.getElem_set_self]
            have hset2 : ∀ y z : jJn, idx ((s.1.set j y).set j z) (j : Int) = some z := fun y z => by rw [List.set_set]; exact hset z
            generalize hS : (if qJr (jQy m) ((i : Int) + 1) ((m.length : Int) + 1) 0 = true then V else 0) = W
            have hmid : ∃ y : jJn, (((bif qJr (jQy m) ((i : Int) + 1) ((m.length : Int) + 1) 0 then ((idx (s.1.set (Int.toNat (j : Int)) ({ s.1[j] with Charged := s.1[j].Charged + V } : jJn)) (j : Int)).bind fun v14 => (idx (s.1.set (Int.toNat (j : Int)) ({ s.1[j] with Charged := s.1[j].Charged + V } : jJn)) (j : Int)).bind fun v15 => some ((s.1.set (Int.toNat (j : Int)) ({ s.1[j] with Charged := s.1[j].Charged + V } : jJn)).set (Int.toNat (j : Int)) ({ v15 with Signed := (IntKind.i64.wrap (v14.Signed + V)) } : jJn))) else (some (s.1.set (Int.toNat (j : Int)) ({ s.1[j] with Charged := s.1[j].Charged + V } : jJn)))) : Option (List jJn)) = some (s.1.set j y)) ∧ y = { s.1[j] with Charged := s.1[j].Charged + V, Signed := s.1[j].Signed + W } := by
              rw [Int.toNat_natCast]
              cases hsg : qJr (jQy m) ((i : Int) + 1) ((m.length : Int) + 1) 0 with
              | true =>
                rw [hsg, if_pos rfl] at hS
                subst hS
                refine ⟨_, ?_, rfl⟩
                rw [cnT, hset, bS, bS, jDb (by dsimp only; omega) (by dsimp only; omega), List.set_set]
              | false =>
                rw [hsg, if_neg (by decide)] at hS
                subst hS
                refine ⟨_, ?_, rfl⟩
                rw [cnF, Int.add_zero]
            obtain ⟨y, hy, hy2⟩ := hmid
            rw [hy, bS]
            have hWb : -1000000000 ≤ W ∧ W ≤ 1000000000 := by rw [← hS]; split <;> omega
            have hacc : jCt (jQy m) x ((m.length : Int) + 1) s ((i : Int) + 1, pAt m (i + 1)) = (qQ0 (fun a => { a with Charged := a.Charged + V, Signed := a.Signed + W, Billed := a.Billed + jC7 (jQy m) x ((i : Int) + 1, pAt m (i + 1)) }) s.1 j, s.2) := by
              unfold jCt
              rw [if_pos hx, if_neg h1, if_neg h2, if_pos h3, hV, hj]
              dsimp only
              rw [hS]; rfl
            have hAI := qXs h hk h1 (j := j) (f := fun a => { a with Charged := a.Charged + V, Signed := a.Signed + W, Billed := a.Billed + jC7 (jQy m) x ((i : Int) + 1, pAt m (i + 1)) }) (fun a ha => ⟨ha.es, by have := ha.gr; dsimp only; omega, by have := ha.ch; dsimp only; omega, by have := ha.si; dsimp only; omega, by have := ha.bi; dsimp only; omega⟩) hacc
            refine ⟨_, ?_, hAI⟩
            dsimp only
            rw [jRb hjl, jRg hjl]
            by_cases hz : cvV m x m.length ((i : Int) + 1) = 0
            · rw [if_pos hz] at hbe
              rw [hz, jY9, dF (by omega), cnF, hbe, hy2, Int.add_zero]; rfl
            · rw [if_neg hz] at hbe
              rw [jY9, dT (by omega), cnT, hset, bS, qJy B v hl hN (by omega) (by omega) (by omega) (by omega), bS, bS, ← hbe, Int.toNat_natCast, List.set_set, jDb (by rw [hy2]; dsimp only; omega) (by rw [hy2]; dsimp only; omega), hy2]; rfl
          · rw [dF h3, cnF]
            refine ⟨s, rfl, ?_, by have := h.len; omega, fun n a1 a2 a3 a4 a5 => ?_, fun a ha => (h.bd a ha).mono (by omega)⟩
            · rw [jA2 h hk]
              unfold jCt
              rw [if_pos hx, if_neg h1, if_neg h2, if_neg h3]
            · by_cases hn : n = (i : Int) + 1
              · rw [hn] at a4; exact absurd a4 h1
              · exact h.at_ n a1 (by omega) a3 a4 a5
  · rw [dF hx]
    exact ⟨s, rfl, jA0 h (fun hc => hx hc.2)⟩
end
end Go.KB
namespace Go.KB
set_option linter.unusedVariables false
def overA (a : jJn) : jJn := { a with Over := max 0 (a.Charged - a.Estimate - a.Growth) }
def stE (m : List jJu) (n : Int) : Int := if n = 0 then 6 else if jYu m n = true then 0 else 27
def jTa (l : List jJn) (paid : Int) : jJq := ⟨smI (l.map (·.Estimate)), smI (l.map (·.Growth)), smI (l.map (·.Charged)), smI (l.map (·.Billed)), paid, smI (l.map (·.Billed)) - paid⟩
theorem qX2 {l : List jJn} {F : jJn → jJn} : (List.range l.length).map (fun i => F l[i]!) = l.map F := by
 refine List.ext_getElem (by simp) fun i h1 h2 => ?_
 simp only [List.length_map] at h2
 simp [h2]
section
variable {N : Nat} {g0 : jJj} {o : List (Str × Int)} {it : List (jJz × Int)} {gn : List (Int × Bool)} {m : List jJu}
theorem jB5 (B : jGb g0 o it gn m) (v : Vl Nm m) (hl : m.length ≤ 400) (hN : 2000 ≤ N) {x : Str} (hx0 : x ≠ []) :
  jZu N g0 o it gn x = some (jL0 (jQy m) x ((m.length : Int) + 1)) ∧ (jL0 (jQy m) x ((m.length : Int) + 1)).length ≤ m.length ∧ ∀ a ∈ jL0 (jQy m) x ((m.length : Int) + 1), BdA ((m.length : Int) * 1000000000) a := by
 unfold jZu jZh
 obtain ⟨cov, hc, hcov⟩ := jRk (N := N) B v hl hN x
 rw [hc, bS, bS, B.posts, jDb (by omega) (by omega)]
 obtain ⟨r, e, s, h, rfl⟩ := jUx (f := jXh N g0 o it gn x cov ((m.length : Int) + 1)) (fun t => ∃ (i : Nat) (s : qQ2), t = (s.1, s.2, (i : Int)) ∧ i ≤ m.length ∧ qVl m x i s) (fun t => m.length - t.2.2.toNat) (fun r => ∃ s : qQ2, qVl m x m.length s ∧ r = s.1) (by
  rintro t ⟨i, s, rfl, hi, h⟩
  by_cases hlt : i < m.length
  ·left
   obtain ⟨s', h1, h2⟩ := qWy (N := N) B v hl hN hx0 hcov hlt h
   exact ⟨_, h1, ⟨i + 1, s', rfl, by omega, h2⟩, by dsimp only; omega⟩
  ·right
   obtain rfl : i = m.length := by omega
   refine ⟨s.1, ?_, s, h, rfl⟩
   unfold jXh
   dsimp only
   rw [B.posts, jQa, dF (by omega), cnF]) N ([], [], 0) ⟨0, ([], []), rfl, by omega, ⟨rfl, Nat.le_refl _, fun n h1 h2 => by omega, fun a ha => by cases ha⟩⟩ (by dsimp only; omega)
 have hE : jL0 (jQy m) x ((m.length : Int) + 1) = s.1.map overA := by
  unfold jL0
  rw [h.is]; rfl
 have hlen := h.len
 rw [e, bS, hE]
 have := qW2 (f := jX0 N s.1) (N := N) (m := s.1.length) s.1 (fun i => overA s.1[i]!) (Nat.le_refl _) (fun i hi y hy hj => by
  unfold jX0
  dsimp only
  have hb := h.bd _ (List.getElem_mem hi)
  have h1 := hb.es
  have h2 := hb.gr
  have h3 := hb.ch
  have hyi : y[i]'(by omega) = s.1[i] := by
   have := hj i (Nat.le_refl _)
   rw [List.getElem?_eq_getElem (by omega), List.getElem?_eq_getElem hi] at this
   exact Option.some.inj this
  rw [jQa, dT (by omega), cnT, jKl (by omega), bS, bS, hyi, jP8 (by omega), jDb (n := s.1[i].Charged - s.1[i].Estimate) (by omega) (by omega), jDb (by omega) (by omega), Int.toNat_natCast, jRg hi]; rfl) (fun y hy => by
  unfold jX0
  dsimp only
  rw [jQa, dF (by omega), cnF]) (by omega)
 rw [List.drop_length, List.append_nil, qX2] at this
 rw [this]
 refine ⟨rfl, by rw [List.length_map]; exact hlen, fun a ha => ?_⟩
 obtain ⟨b, hb, rfl⟩ := List.mem_map.1 ha
 have := h.bd b hb
 exact ⟨this.es, this.gr, this.ch, this.si, this.bi⟩
theorem jRw (B : jGb g0 o it gn m) (v : Vl Nm m) (hl : m.length ≤ 400) (hN : 2000 ≤ N) {x : Str} : jZr N g0 o it gn x = some (stE m (jG6 m x)) := by
 unfold jZr
 rw [B.ord, jB3 B v.base (by omega) hN jFm.1 jFm.2]; rfl
theorem jTc (B : jGb g0 o it gn m) (v : Vl Nm m) (hl : m.length ≤ 400) (hN : 2000 ≤ N) {x : Str} (hx0 : x ≠ []) :
  jVg N g0 o it gn x = some (if stE m (jG6 m x) = 0 then (jL0 (jQy m) x ((m.length : Int) + 1), 0) else ([], stE m (jG6 m x))) := by
 unfold jVg
 rw [jRw B v hl hN, bS, jYl]
 by_cases hz : stE m (jG6 m x) = 0
 ·rw [dT hz, if_pos hz, (jB5 B v hl hN hx0).1]; rfl
 ·rw [dF hz, if_neg hz]; rfl
theorem jS1 {l : List jJn} {F : jJn → Int} {K : Int} (hK : 0 ≤ K) (h : ∀ a ∈ l, -K ≤ F a ∧ F a ≤ K) (i : Nat) : -K * l.length ≤ smI ((l.take i).map F) ∧ smI ((l.take i).map F) ≤ K * l.length := by
 have := smI_bd (l := (l.take i).map F) (a := -K) (b := K) (fun y hy => by
  obtain ⟨a, ha, rfl⟩ := List.mem_map.1 hy
  exact h a (List.mem_of_mem_take ha))
 rw [List.length_map, List.length_take] at this
 have h1 : K * ((min i l.length : Nat) : Int) ≤ K * l.length := Int.mul_le_mul_of_nonneg_left (by omega) hK
 have h2 : -K * ((min i l.length : Nat) : Int) = -(K * ((min i l.length : Nat) : Int)) := Int.neg_mul ..
 have h3 : -K * (l.length : Int) = -(K * l.length) := Int.neg_mul ..
 omega
theorem jH0 {l : List jJn} {F : jJn → Int} {i : Nat} (h : i < l.length) : smI ((l.take (i + 1)).map F) = smI ((l.take i).map F) + F l[i] := by
 rw [List.take_succ_eq_append_getElem h, List.map_append, qUn]
 show _ + (F l[i] + 0) = _
 omega
def jMx (m : List jJu) (x : Str) (i : Nat) : Int := (((jWz m i).filter fun e => decide (e.2.Op = 7) && decide (e.2.Order = x)).map (·.2.Amount)).sum
theorem jTz {x : Str} {i : Nat} : jMx m x (i + 1) = jMx m x i + (if (pAt m (i + 1)).Op = 7 ∧ (pAt m (i + 1)).Order = x ∧ jYu m (i + 1) = true then (pAt m (i + 1)).Amount else 0) := by
  unfold jMx
  rw [jU8, List.filter_append, List.map_append, List.sum_append]
  congr 1
  by_cases h : (pAt m (i + 1)).Op = 7 ∧ (pAt m (i + 1)).Order = x ∧ jYu m (i + 1) = true
  · rw [if_pos h, if_pos (by rw [jDa (by rw [h.1]; decide)]; exact h.2.2), List.filter_cons_of_pos (by simp [h])]
    simp
  · rw [if_neg h]
    by_cases hk : jKm m (i + 1) = true
    · rw [if_pos hk, List.filter_cons_of_neg (by
        simp only [Bool.and_eq_true, decide_eq_true_eq]
        exact fun hc => h ⟨hc.1, hc.2, jLl hk⟩)]
      rfl
    · rw [if_neg hk]; rfl
theorem jPd (B : jGb g0 o it gn m) (v : Vl Nm m) (hl : m.length ≤ 400) (hN : 2000 ≤ N) {x : Str} (hx0 : x ≠ []) :
  jZj N g0 o it gn x = some (if stE m (jG6 m x) = 0 then (jTa (jL0 (jQy m) x ((m.length : Int) + 1)) (jFf (jQy m) x), 0) else (⟨0, 0, 0, 0, 0, 0⟩, stE m (jG6 m x))) := by
 unfold jZj
 rw [jRw B v hl hN, bS, jYl]
 by_cases hz : stE m (jG6 m x) = 0
 ·obtain ⟨h1, h2, h3⟩ := jB5 (N := N) B v hl hN hx0
  rw [dT hz, if_pos hz, h1]
  simp only [Bool.not_true, cnF, bS]
  generalize jL0 (jQy m) x ((m.length : Int) + 1) = A at *
  have hK : (0 : Int) ≤ (m.length : Int) * 1000000000 := by omega
  have bE := fun i => jS1 (l := A) (F := (·.Estimate)) (K := 1000000000) (by omega) (fun a ha => (h3 a ha).es) i
  have bG := fun i => jS1 (l := A) (F := (·.Growth)) hK (fun a ha => (h3 a ha).gr) i
  have bC := fun i => jS1 (l := A) (F := (·.Charged)) hK (fun a ha => (h3 a ha).ch) i
  have bB := fun i => jS1 (l := A) (F := (·.Billed)) hK (fun a ha => (h3 a ha).bi) i
  have hbig : (m.length : Int) * 1000000000 * (A.length : Int) ≤ 400 * 1000000000 * 400 := by
   have a1 : (m.length : Int) * 1000000000 ≤ 400 * 1000000000 := by omega
   have a2 : (A.length : Int) ≤ 400 := by omega
   exact Int.mul_le_mul a1 a2 (by omega) (by omega)
  have hneg : -((m.length : Int) * 1000000000) * (A.length : Int) = -((m.length : Int) * 1000000000 * (A.length : Int)) := Int.neg_mul ..
  have e1 := jU3 (f := jX7 N A) A.length (fun i => (⟨smI ((A.take i).map (·.Estimate)), smI ((A.take i).map (·.Growth)), smI ((A.take i).map (·.Charged)), smI ((A.take i).map (·.Billed)), 0, 0⟩ : jJq)) (⟨smI (A.map (·.Estimate)), smI (A.map (·.Growth)), smI (A.map (·.Charged)), smI (A.map (·.Billed)), 0, 0⟩ : jJq) (fun i hi => by
   unfold jX7
   dsimp only
   have q1 := jH0 (l := A) (F := (·.Estimate)) hi
   have q2 := jH0 (l := A) (F := (·.Growth)) hi
   have q3 := jH0 (l := A) (F := (·.Charged)) hi
   have q4 := jH0 (l := A) (F := (·.Billed)) hi
   have r1 := bE (i + 1)
   have r2 := bG (i + 1)
   have r3 := bC (i + 1)
   have r4 := bB (i + 1)
   rw [jQa, dT (by omega), cnT, jKl hi, bS, jP8 (by omega), ← q1, ← q2, ← q3, ← q4, jDb (by omega) (by omega), jDb (by omega) (by omega), jDb (by omega) (by omega), jDb (by omega) (by omega)]) (by
   unfold jX7
   dsimp only
   rw [jQa, dF (by omega), cnF, List.take_length]) N (by omega)
  rw [show ((⟨smI ((A.take 0).map (·.Estimate)), smI ((A.take 0).map (·.Growth)), smI ((A.take 0).map (·.Charged)), smI ((A.take 0).map (·.Billed)), 0, 0⟩ : jJq), (0 : Int)) = ((⟨0, 0, 0, 0, 0, 0⟩ : jJq), (0 : Int)) from rfl] at e1
  rw [e1, bS]
  have r1 := bE A.length
  have r4 := bB A.length
  rw [List.take_length] at r1 r4
  generalize hE : smI (A.map (·.Estimate)) = sE at *
  generalize hG : smI (A.map (·.Growth)) = sG at *
  generalize hC : smI (A.map (·.Charged)) = sC at *
  generalize hB : smI (A.map (·.Billed)) = sB at *
  have pb : ∀ i : Nat, i ≤ m.length → 0 ≤ jMx m x i ∧ jMx m x i ≤ (i : Int) * 1000000000 := by
   intro i
   induction i with
   | zero => intro _; exact ⟨Int.le_refl _, Int.le_refl _⟩
   | succ i ih =>
    intro hi
    have := ih (by omega)
    rw [jTz]
    split
    ·rename_i hc
     have := (v.at (n := (i : Int) + 1) (by omega) (by omega)).amt
     rw [if_neg (by omega), if_neg (by omega), if_pos hc.1] at this
     omega
    ·omega
  have e2 := jU3 (f := jX4 N g0 o it gn x) m.length (fun i => (⟨sE, sG, sC, sB, jMx m x i, 0⟩ : jJq)) (⟨sE, sG, sC, sB, jMx m x m.length, 0⟩ : jJq) (fun i hi => by
   unfold jX4
   dsimp only
   have hidx : idx m (i : Int) = some (pAt m (i + 1)) := by
    have := jL1 (m := m) (n := (i : Int) + 1) (by omega) (by omega)
    rw [show (i : Int) + 1 - 1 = i by omega] at this; exact this
   have p1 := pb (i + 1) (by omega)
   rw [B.posts, jQa, dT (by omega), cnT, hidx, bS, jDb (n := (i : Int) + 1) (by omega) (by omega), jV1, jVf]
   rw [jTz] at p1 ⊢
   by_cases hA : (pAt m (i + 1)).Op = 7 ∧ (pAt m (i + 1)).Order = x
   ·rw [dT hA.1, dT hA.2]
    simp only [Bool.and_self, cnT, Bool.true_and]
    rw [jBx B v.base (by omega) hN (by omega) (by omega), bS]
    cases hv : jYu m (i + 1) with
    | true =>
     rw [if_pos ⟨hA.1, hA.2, hv⟩] at p1
     rw [cnT, if_pos ⟨hA.1, hA.2, rfl⟩, jDb (by omega) (by omega)]; rfl
    | false =>
     rw [cnF, if_neg (fun h => absurd h.2.2 (by decide)), Int.add_zero]; rfl
   ·rw [← Bool.decide_and, dF hA, if_neg (fun h => hA ⟨h.1, h.2.1⟩), Int.add_zero]; rfl) (by
   unfold jX4
   dsimp only
   rw [B.posts, jQa, dF (by omega), cnF]) N (by omega)
  rw [show ((⟨sE, sG, sC, sB, jMx m x 0, 0⟩ : jJq), (0 : Int)) = ((⟨sE, sG, sC, sB, 0, 0⟩ : jJq), (0 : Int)) from rfl] at e2
  rw [e2, bS]
  have p1 := pb m.length (Nat.le_refl _)
  rw [jDb (by dsimp only; omega) (by dsimp only; omega)]
  unfold jTa
  rw [hE, hG, hC, hB]; rfl
 ·rw [dF hz, if_neg hz]; rfl
end
end Go.KB
namespace Go.KB
set_option linter.unusedVariables false
section
variable {N : Nat} {g0 : jJj} {o : List (Str × Int)} {it : List (jJz × Int)} {gn : List (Int × Bool)} {m : List jJu}
theorem jCr (B : jGb g0 o it gn m) (v : Vl Nm m) (hl : m.length ≤ 400) (hN : 2000 ≤ N) : jV7 N g0 o it gn = some (jNn m) := by
  unfold jV7
  obtain ⟨r, e, h⟩ := jUx (f := jVr N g0 o it gn) (fun s => ∃ i : Nat, s.2.2 = i ∧ i ≤ m.length ∧ s.1 = jF5 m i ∧ ∀ n : Int, 1 ≤ n → n ≤ i → jKm m n = true → jXm 0 s.2.1 n = nuN m n) (fun s => m.length - s.2.2.toNat) (fun r => r = jNn m) (by
    rintro ⟨u, nb, s⟩ ⟨i, hs, hi, hu, hnb⟩
    dsimp only at hs hu hnb
    subst hs
    unfold jVr
    dsimp only
    rw [B.posts]
    by_cases hlt : i < m.length
    · left
      have hidx : idx m (i : Int) = some (pAt m (i + 1)) := by
        have := jL1 (m := m) (n := (i : Int) + 1) (by omega) (by omega)
        rw [show (i : Int) + 1 - 1 = i by omega] at this; exact this
      rw [jQa, dT (by omega), cnT, hidx, bS, jDb (n := (i : Int) + 1) (by omega) (by omega), jV1]
      have hskip : jKm m (i + 1) = false → ∃ i' : Nat, ((i : Int) + 1) = i' ∧ i' ≤ m.length ∧ u = jF5 m i' ∧ ∀ n : Int, 1 ≤ n → n ≤ i' → jKm m n = true → jXm 0 nb n = nuN m n := fun hk => ⟨i + 1, rfl, by omega, by rw [jTj, hk, hu]; simp, fun n h1 h2 h3 => by
        by_cases hn : n = (i : Int) + 1
        · rw [hn, hk] at h3; cases h3
        · exact hnb n h1 (by omega) h3⟩
      by_cases h8 : (pAt m (i + 1)).Op = 8
      · rw [dT h8]
        exact ⟨_, rfl, hskip (by unfold jKm; rw [dT h8]; simp), by dsimp only; omega⟩
      · rw [dF h8]
        simp only [Bool.not_false, cnT, Bool.false_or]
        rw [jBx B v.base (by omega) hN (by omega) (by omega), bS]
        cases hv : jYu m (i + 1) with
        | false => exact ⟨_, rfl, hskip (by rw [jDa h8]; exact hv), by dsimp only; omega⟩
        | true =>
          have hk : jKm m (i + 1) = true := by rw [jDa h8]; exact hv
          simp only [Bool.not_true, cnF]
          have hren : ((bif jJb .gtr (pAt m (i + 1)).Ref 0 then some ({ (pAt m (i + 1)) with Ref := jXm 0 nb (pAt m (i + 1)).Ref } : jJu) else some (pAt m (i + 1))) : Option jJu) = some (renP (nuN m) (pAt m (i + 1))) := by
            unfold renP
            rw [jY9]
            by_cases hr : 0 < (pAt m (i + 1)).Ref
            · have hok := v.at (n := (i : Int) + 1) (by omega) (by omega)
              have hop : (pAt m (i + 1)).Op = 4 ∨ (pAt m (i + 1)).Op = 5 := by
                have := hok.ref
                split at this <;> omega
              have hb : jUy m (pAt m (i + 1)) = (pAt m (i + 1)).Ref := jT6 hop
              have hkr := jSu v (n := (i : Int) + 1) (by omega) (by omega) hk (by rw [hb]; omega)
              have hlt := (v.step (n := (i : Int) + 1) (by omega) (by omega)).2.1
              rw [hb] at hkr hlt
              rw [dT hr, cnT, if_pos hr, hnb _ (by omega) (by omega) hkr]
            · rw [dF hr, cnF, if_neg hr]
          rw [hren, bS]
          have hul : u.length ≤ i := by
            have := jAn m i
            rw [← hu] at this
            have n4 : nuN m i ≤ i := by
              unfold nuN jWz
              rw [List.length_map, show ((i : Int)).toNat = i by omega]
              have := List.length_filter_le (fun (i : Nat) => jKm m (i + 1)) (List.range i)
              rw [List.length_range] at this; omega
            omega
          rw [jDy (by simp; omega), bS]
          refine ⟨_, rfl, ⟨i + 1, rfl, by omega, ?_, ?_⟩, by dsimp only; omega⟩
          · dsimp only
            rw [jTj, if_pos hk, hu]
          · intro n h1 h2 h3
            dsimp only
            rw [jGa]
            by_cases hn : n = (i : Int) + 1
            · rw [if_pos hn, hn, qUq (by omega) hk, show (i : Int) + 1 - 1 = (i : Nat) by omega, ← jAn, hu]
              simp
            · rw [if_neg hn]; exact hnb n h1 (by omega) h3
    · obtain rfl : i = m.length := by omega
      right
      exact ⟨u, by rw [jQa, dF (by omega), cnF], hu⟩) N ([], [], 0) ⟨0, rfl, by omega, rfl, fun n h1 h2 => by omega⟩ (by dsimp only; omega)
  rw [e, h]; rfl
end
theorem jT1 {m : List jJu} : (jNn m).length ≤ m.length := by
 unfold jNn jF5 jWz
 rw [List.length_map, List.length_map]
 have := List.length_filter_le (fun (i : Nat) => jKm m (i + 1)) (List.range m.length)
 rw [List.length_range] at this; exact this
end Go.KB
