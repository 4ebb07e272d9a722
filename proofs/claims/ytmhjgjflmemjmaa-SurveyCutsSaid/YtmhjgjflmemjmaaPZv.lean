/- The program counts the nodes of a tree. The leaves of a tree: the program's and the reference's. The leaves of a tree are the same for both. No condition. -/
import Derived.Test.YtmhjgjflmemjmaaPZu
namespace Go.KB
set_option linter.unusedVariables false
def PM (s n : Nat) : Prop := 1 ≤ n ∧ n ≤ s ∧ (s ≤ 200 → n = s) ∧ (200 < s → 200 < n)
theorem PM.add {s n t v : Nat} (h : PM s n) (h' : PM t v) (hn : n ≤ 200) : PM (s + t) (n + v) := by unfold PM at *; omega
theorem PM.up {s n t : Nat} (h : PM s n) (hn : 200 < n) : PM (s + t) n := by unfold PM at *; omega
theorem many_loop {rc : GCut → Option Int} {N : Nat} {l : List GCut} (hrc : ∀ i, i < l.length → ∃ v : Nat, rc l[i]! = some (v : Int) ∧ PM (nT l[i]!) v) : ∀ (k i s n M : Nat), l.length - i ≤ k → k < M → i ≤ l.length → l.length ≤ 1000000 → PM s n → s + nTs (l.drop i) ≤ 1000000 → ∃ n' : Nat, (loopN (f_survey_many_L1 N rc l) M ((n : Int), (i : Int)) = some (.inl (n' : Int)) ∨ 200 < n' ∧ loopN (f_survey_many_L1 N rc l) M ((n : Int), (i : Int)) = some (.inr (n' : Int))) ∧ PM (s + nTs (l.drop i)) n' := by
  intro k
  induction k with
  | zero =>
    intro i s n M h1 h2 h3 hl hp hb
    obtain ⟨M, rfl⟩ : ∃ x, M = x + 1 := ⟨M - 1, by omega⟩
    refine ⟨n, .inl ?_, by rw [List.drop_eq_nil_of_le (by omega)]; exact hp⟩
    rw [loopN]
    unfold f_survey_many_L1
    simp only []
    rw [cmp_lss, dF (by omega), cnF]
  | succ k ih =>
    intro i s n M h1 h2 h3 hl hp hb
    obtain ⟨M, rfl⟩ : ∃ x, M = x + 1 := ⟨M - 1, by omega⟩
    by_cases q : i < l.length
    · rw [nTs_drop q] at hb ⊢
      by_cases g : 200 < n
      · refine ⟨n, .inr ⟨g, ?_⟩, hp.up g⟩
        rw [loopN]
        unfold f_survey_many_L1
        simp only []
        rw [cmp_lss, dT (by omega), cnT, idxB q, bS, cmp_gtr, dT (by omega), cnT]
      · obtain ⟨v, v1, v2⟩ := hrc i q
        have hv : v ≤ nT l[i]! := v2.2.1
        have hs : f_survey_many_L1 N rc l ((n : Int), (i : Int)) = some (.inl (((n + v : Nat) : Int), ((i + 1 : Nat) : Int))) := by
          unfold f_survey_many_L1
          simp only []
          rw [cmp_lss, dT (by omega), cnT, idxB q, bS, cmp_gtr, dF (by omega), cnF, v1, bS, w64s (by omega), w64i (by omega) (by omega)]; rfl
        obtain ⟨n', t1, t2⟩ := ih (i + 1) (s + nT l[i]!) (n + v) M (by omega) (by omega) q hl (hp.add v2 (by omega)) (by omega)
        refine ⟨n', ?_, by rw [← Nat.add_assoc]; exact t2⟩
        rw [loopN, hs]
        exact t1
    · refine ⟨n, .inl ?_, by rw [List.drop_eq_nil_of_le (by omega)]; exact hp⟩
      rw [loopN]
      unfold f_survey_many_L1
      simp only []
      rw [cmp_lss, dF (by omega), cnF]
theorem nTs_mem {l : List GCut} {i : Nat} (h : i < l.length) : nT l[i]! ≤ nTs l := by
 induction l generalizing i with
 | nil => exact absurd h (Nat.not_lt_zero _)
 | cons x l ih =>
  cases i with
  | zero => show nT x ≤ nT x + nTs l; omega
  | succ i =>
   have := ih (i := i) (by simpa using h)
   show nT l[i]! ≤ nT x + nTs l
   omega
theorem many_eq : ∀ (M : Nat) (c : GCut), nT c + 3 ≤ M → nT c ≤ 1000000 → ∃ v : Nat, f_survey_many M c = some (v : Int) ∧ PM (nT c) v := by
 intro M
 induction M with
 | zero => intro c h; omega
 | succ M ih =>
  intro c h1 h2
  show ∃ v : Nat, f_survey_many_B M (f_survey_many M) c = _ ∧ _
  have hT := nT_eq c
  obtain ⟨n1, a1, a2⟩ := many_loop (rc := f_survey_many M) (N := M) (l := c.First) (fun i hi => by
   have := nTs_mem hi
   exact ih _ (by omega) (by omega)) c.First.length 0 1 1 M (by omega) (by have := nTs_len c.First; omega) (Nat.zero_le _) (by have := nTs_len c.First; omega) (by unfold PM; omega) (by rw [List.drop_zero]; omega)
  rw [List.drop_zero] at a2
  obtain ⟨M2, rfl⟩ : ∃ x, M = x + 3 := ⟨M - 3, by have := nT_pos c; omega⟩
  rcases a1 with a1 | ⟨g, a1⟩
  ·have s0 : f_survey_many_L2 (M2 + 3) (f_survey_many (M2 + 3)) c (1, 0) = some (.inl ((n1 : Int), 1)) := by
    unfold f_survey_many_L2
    simp only []
    rw [show cmpI .lss (0 : Int) 2 = true from rfl, cnT, show idx [c.First, c.Rest] 0 = some c.First from rfl, bS]
    have a1 : loopN (f_survey_many_L1 (M2 + 3) (f_survey_many (M2 + 3)) c.First) (M2 + 3) (1, 0) = _ := a1
    rw [a1, bS]; rfl
   obtain ⟨n2, b1, b2⟩ := many_loop (rc := f_survey_many (M2 + 3)) (N := M2 + 3) (l := c.Rest) (fun i hi => by
    have := nTs_mem hi
    exact ih _ (by omega) (by omega)) c.Rest.length 0 (1 + nTs c.First) n1 (M2 + 3) (by omega) (by have := nTs_len c.Rest; omega) (Nat.zero_le _) (by have := nTs_len c.Rest; omega) a2 (by rw [List.drop_zero]; omega)
   rw [List.drop_zero, ← hT] at b2
   refine ⟨n2, ?_, b2⟩
   have b1 : loopN (f_survey_many_L1 (M2 + 3) (f_survey_many (M2 + 3)) c.Rest) (M2 + 3) ((n1 : Int), 0) = some (.inl (n2 : Int)) ∨ 200 < n2 ∧ loopN (f_survey_many_L1 (M2 + 3) (f_survey_many (M2 + 3)) c.Rest) (M2 + 3) ((n1 : Int), 0) = some (.inr (n2 : Int)) := b1
   unfold f_survey_many_B
   rw [loopN, s0]
   show ((loopN _ (M2 + 2) ((n1 : Int), 1)).bind _) = _
   rcases b1 with b1 | ⟨g, b1⟩
   ·have s1 : f_survey_many_L2 (M2 + 3) (f_survey_many (M2 + 3)) c ((n1 : Int), 1) = some (.inl ((n2 : Int), 2)) := by
     unfold f_survey_many_L2
     simp only []
     rw [show cmpI .lss (1 : Int) 2 = true from rfl, cnT, show idx [c.First, c.Rest] 1 = some c.Rest from rfl, bS, b1, bS]; rfl
    have s2 : f_survey_many_L2 (M2 + 3) (f_survey_many (M2 + 3)) c ((n2 : Int), 2) = some (.inr (.inl (n2 : Int))) := by
     unfold f_survey_many_L2
     simp only []
     rw [show cmpI .lss (2 : Int) 2 = false from rfl, cnF]
    rw [loopN, s1]
    show ((loopN _ (M2 + 1) ((n2 : Int), 2)).bind _) = _
    rw [loopN, s2]; rfl
   ·have s1 : f_survey_many_L2 (M2 + 3) (f_survey_many (M2 + 3)) c ((n1 : Int), 1) = some (.inr (.inr (n2 : Int))) := by
     unfold f_survey_many_L2
     simp only []
     rw [show cmpI .lss (1 : Int) 2 = true from rfl, cnT, show idx [c.First, c.Rest] 1 = some c.Rest from rfl, bS, b1, bS]; rfl
    rw [loopN, s1]; rfl
  ·have s0 : f_survey_many_L2 (M2 + 3) (f_survey_many (M2 + 3)) c (1, 0) = some (.inr (.inr (n1 : Int))) := by
    unfold f_survey_many_L2
    simp only []
    rw [show cmpI .lss (0 : Int) 2 = true from rfl, cnT, show idx [c.First, c.Rest] 0 = some c.First from rfl, bS]
    have a1 : loopN (f_survey_many_L1 (M2 + 3) (f_survey_many (M2 + 3)) c.First) (M2 + 3) (1, 0) = _ := a1
    rw [a1, bS]; rfl
   refine ⟨n1, ?_, by rw [hT]; exact a2.up g⟩
   unfold f_survey_many_B
   rw [loopN, s0]; rfl
end Go.KB
namespace Go.KB
set_option linter.unusedVariables false
theorem leaves_small {M : Nat} {c : GCut} {r : GRect} {k : Int} (h : r.W < 1 ∨ r.H < 1) : f_ref09_Leaves (M + 1) c r k = some ([], false) := by
 show f_ref09_Leaves_B M (f_ref09_Leaves M) c r k = _
 unfold f_ref09_Leaves_B
 rw [cmp_lss, cmp_lss]
 rcases h with h | h
 ·rw [dT h]; rfl
 ·rw [dT h, Bool.or_true]; rfl
def rectA (c : GCut) (r : GRect) (k : Int) : GRect := bif c.Across then ({ r with H := c.At } : GRect) else ({ r with W := c.At } : GRect)
def rectB (c : GCut) (r : GRect) (k : Int) : GRect := bif c.Across then ({ r with Y := IntKind.i64.wrap (IntKind.i64.wrap (r.Y + c.At) + k), H := IntKind.i64.wrap (IntKind.i64.wrap (r.H - c.At) - k) } : GRect) else ({ r with X := IntKind.i64.wrap (IntKind.i64.wrap (r.X + c.At) + k), W := IntKind.i64.wrap (IntKind.i64.wrap (r.W - c.At) - k) } : GRect)
def badN (c : GCut) : Prop := c.First.length ≠ 1 ∨ c.Rest.length ≠ 1 ∨ c.Piece ≠ -1 ∨ c.Turned = true ∨ c.At ≤ 0
instance (c : GCut) : Decidable (badN c) := inferInstanceAs (Decidable (c.First.length ≠ 1 ∨ c.Rest.length ≠ 1 ∨ c.Piece ≠ -1 ∨ c.Turned = true ∨ c.At ≤ 0))
theorem leaves_ref {M : Nat} {c : GCut} {r : GRect} {k : Int} (hw : 1 ≤ r.W) (hh : 1 ≤ r.H) (hn : nT c ≤ 1000000) : f_ref09_Leaves (M + 1) c r k =
    if c.Piece < -1 then some ([], false) else if c.First = [] ∧ c.Rest = [] then (if c.At ≠ 0 ∨ c.Across = true then some ([], false) else if c.Piece = -1 then some ([], true) else some ([⟨c.Piece, c.Turned, r⟩], true))
    else if badN c ∨ 200000 < c.At then some ([], false) else (f_ref09_Leaves M c.First[0]! (rectA c r k) k).bind fun v7 => (f_ref09_Leaves M c.Rest[0]! (rectB c r k) k).bind fun v9 => (app v7.1 v9.1).bind fun v10 => some (v10, (v7.2 && v9.2)) := by
  show f_ref09_Leaves_B M (f_ref09_Leaves M) c r k = _
  have h1 := nT_eq c
  have h2 := nTs_len c.First
  have h3 := nTs_len c.Rest
  unfold f_ref09_Leaves_B
  rw [cmp_lss, cmp_lss, dF (by omega), dF (by omega), Bool.or_self, Bool.false_or, cmp_lss]
  by_cases p : c.Piece < -1
  · rw [dT p, cnT, if_pos p]
  · rw [dF p, cnF, if_neg p, cmp_eql, w64i (by omega) (by omega)]
    by_cases e : c.First = [] ∧ c.Rest = []
    · rw [if_pos e, dT (by rw [e.1, e.2]; rfl), cnT]
      simp only [cmp_neq, cmp_eql]
      by_cases g : c.At ≠ 0 ∨ c.Across = true
      · rw [if_pos g]
        have hg : (!decide (c.At = 0) || c.Across) = true := by
          rcases g with g | g
          · rw [dF g]; rfl
          · rw [g, Bool.or_true]
        have hg2 : (decide (c.At = 0) && !c.Across) = false := by
          rcases g with g | g
          · rw [dF g]; rfl
          · rw [g]; simp
        rw [hg, hg2]; rfl
      · rw [if_neg g]
        have g0 : c.At = 0 := by by_cases q : c.At = 0 <;> simp_all
        have g1 : c.Across = false := by cases q : c.Across <;> simp_all
        rw [dT g0, g1]
        by_cases q : c.Piece = -1
        · rw [dT q, if_pos q]
          cases c.Turned <;> rfl
        · rw [dF q, if_neg q]; rfl
    · rw [if_neg e, dF (fun h => e ⟨List.length_eq_zero_iff.1 (by omega), List.length_eq_zero_iff.1 (by omega)⟩), cnF]
      simp only [cmp_neq, cmp_lss, cmp_gtr]
      have hb : (((((!decide ((c.First.length : Int) = 1) || !decide ((c.Rest.length : Int) = 1)) || !decide (c.Piece = -1)) || c.Turned) || decide (c.At < 1)) || decide (200000 < c.At)) = decide (badN c ∨ 200000 < c.At) := by
        rw [Bool.eq_iff_iff]
        simp only [Bool.or_eq_true, Bool.not_eq_true', decide_eq_false_iff_not, decide_eq_true_eq]
        unfold badN
        cases ht : c.Turned with
        | true => simp only [or_true, true_or]
        | false => simp only [Bool.false_eq_true, or_false, false_or]; omega
      rw [hb]
      by_cases b : badN c ∨ 200000 < c.At
      · rw [dT b, cnT, if_pos b]
      · rw [dF b, cnF, if_neg b]
        have b1 : c.First.length = 1 := by unfold badN at b; omega
        have b2 : c.Rest.length = 1 := by unfold badN at b; omega
        rw [show idx c.First 0 = some c.First[0]! from idxB (i := 0) (by omega), show idx c.Rest 0 = some c.Rest[0]! from idxB (i := 0) (by omega)]
        unfold rectA rectB
        cases c.Across <;> rfl
theorem leaves_prog {M : Nat} {c : GCut} {r : GRect} {k : Int} {l : List Gsurvey_leaf} (hw : 1 ≤ r.W) (hw2 : r.W ≤ 100000) (hh : 1 ≤ r.H) (hh2 : r.H ≤ 100000) (hk : 0 ≤ k) (hk2 : k ≤ 100) (hl : l.length ≤ 2000000) : f_survey_leaves (M + 1) l c r k =
    if c.First = [] ∧ c.Rest = [] then (if c.At ≠ 0 ∨ c.Across = true ∨ c.Piece < -1 then some (l, false) else if 0 ≤ c.Piece then some (l ++ [⟨c.Piece, c.Turned, r⟩], true) else some (l, true))
    else if badN c ∨ (bif c.Across then r.H - k - 1 else r.W - k - 1) < c.At then some (l, false) else (f_survey_leaves M l c.First[0]! (rectA c r k) k).bind fun v14 => bif (!v14.2) then (some (v14.1, false)) else (f_survey_leaves M v14.1 c.Rest[0]! (rectB c r k) k).bind fun v16 => some (v16.1, v16.2) := by
  show f_survey_leaves_B M (f_survey_leaves M) l c r k = _
  unfold f_survey_leaves_B
  simp only [cmp_eql, cmp_neq, cmp_lss, cmp_geq, cmp_leq, cmp_gtr]
  by_cases e : c.First = [] ∧ c.Rest = []
  · rw [if_pos e, dT (show (c.First.length : Int) = 0 by rw [e.1]; rfl), dT (show (c.Rest.length : Int) = 0 by rw [e.2]; rfl), Bool.and_self, cnT]
    have hg : (!decide (c.At = 0) || c.Across || decide (c.Piece < -1)) = decide (c.At ≠ 0 ∨ c.Across = true ∨ c.Piece < -1) := by
      rw [Bool.eq_iff_iff]
      simp only [Bool.or_eq_true, Bool.not_eq_true', decide_eq_false_iff_not, decide_eq_true_eq, or_assoc, ne_eq]
    rw [hg]
    by_cases g : c.At ≠ 0 ∨ c.Across = true ∨ c.Piece < -1
    · rw [dT g, cnT, if_pos g]
    · rw [dF g, cnF, if_neg g]
      by_cases q : 0 ≤ c.Piece
      · rw [dT q, cnT, if_pos q, app_ok (by simp only [List.length_singleton, lim]; omega)]; rfl
      · rw [dF q, cnF, if_neg q]; rfl
  · rw [if_neg e]
    have he : (decide ((c.First.length : Int) = 0) && decide ((c.Rest.length : Int) = 0)) = false := by
      cases h : (decide ((c.First.length : Int) = 0) && decide ((c.Rest.length : Int) = 0)) with
      | false => rfl
      | true =>
        rw [Bool.and_eq_true, decide_eq_true_eq, decide_eq_true_eq] at h
        exact absurd ⟨List.length_eq_zero_iff.1 (by omega), List.length_eq_zero_iff.1 (by omega)⟩ e
    rw [he, cnF]
    have hb : ((((!decide ((c.First.length : Int) = 1) || !decide ((c.Rest.length : Int) = 1)) || !decide (c.Piece = -1)) || c.Turned) || decide (c.At ≤ 0)) = decide (badN c) := by
      rw [Bool.eq_iff_iff]
      simp only [Bool.or_eq_true, Bool.not_eq_true', decide_eq_false_iff_not, decide_eq_true_eq]
      unfold badN
      cases ht : c.Turned with
      | true => simp only [or_true, true_or]
      | false => simp only [Bool.false_eq_true, or_false, false_or]; omega
    rw [hb]
    by_cases b : badN c
    · rw [dT b, cnT, if_pos (.inl b)]
    · rw [dF b, cnF]
      have b1 : c.First.length = 1 := by unfold badN at b; omega
      have b2 : c.Rest.length = 1 := by unfold badN at b; omega
      rw [show idx c.First 0 = some c.First[0]! from idxB (i := 0) (by omega), show idx c.Rest 0 = some c.Rest[0]! from idxB (i := 0) (by omega)]
      rw [w64i (n := r.H - k) (by omega) (by omega), w64i (n := r.H - k - 1) (by omega) (by omega), w64i (n := r.W - k) (by omega) (by omega), w64i (n := r.W - k - 1) (by omega) (by omega)]
      unfold rectA rectB
      cases c.Across with
      | true =>
        simp only [cnT]
        by_cases q : r.H - k - 1 < c.At
        · rw [dT q, cnT, if_pos (.inr q)]; rfl
        · rw [dF q, cnF, if_neg (fun h => h.elim b q)]; rfl
      | false =>
        simp only [cnF]
        by_cases q : r.W - k - 1 < c.At
        · rw [dT q, cnT, if_pos (.inr q)]; rfl
        · rw [dF q, cnF, if_neg (fun h => h.elim b q)]; rfl
end Go.KB
namespace Go.KB
set_option linter.unusedVariables false
theorem good_len {c : GCut} (h : ¬ badN c) : c.First.length = 1 ∧ c.Rest.length = 1 := by unfold badN at h; omega
theorem good_nT {c : GCut} (h : ¬ badN c) : nT c = 1 + nT c.First[0]! + nT c.Rest[0]! := by
 obtain ⟨h1, h2⟩ := good_len h
 rw [nT_eq]
 have e : ∀ l : List GCut, l.length = 1 → nTs l = nT l[0]! := fun l hl => by
  match l, hl with
  | [x], _ => rfl
 rw [e _ h1, e _ h2]
theorem leaves_tot : ∀ (M : Nat) (c : GCut) (r : GRect) (k : Int), nT c ≤ M → nT c ≤ 1000000 → ∃ xs b, f_ref09_Leaves M c r k = some (xs, b) ∧ xs.length ≤ nT c := by
  intro M
  induction M with
  | zero => intro c r k h; have := nT_pos c; omega
  | succ M ih =>
    intro c r k h h2
    by_cases w : r.W < 1 ∨ r.H < 1
    · exact ⟨_, _, leaves_small w, Nat.zero_le _⟩
    · rw [leaves_ref (by omega) (by omega) h2]
      split
      · exact ⟨_, _, rfl, Nat.zero_le _⟩
      · split
        · split
          · exact ⟨_, _, rfl, Nat.zero_le _⟩
          · split
            · exact ⟨_, _, rfl, Nat.zero_le _⟩
            · exact ⟨_, _, rfl, nT_pos c⟩
        · split
          · exact ⟨_, _, rfl, Nat.zero_le _⟩
          · rename_i g
            have gb : ¬ badN c := fun x => g (.inl x)
            have hn := good_nT gb
            obtain ⟨xs, b, p1, p2⟩ := ih c.First[0]! (rectA c r k) k (by omega) (by omega)
            obtain ⟨ys, d, q1, q2⟩ := ih c.Rest[0]! (rectB c r k) k (by omega) (by omega)
            refine ⟨xs ++ ys, b && d, ?_, by rw [List.length_append]; omega⟩
            rw [p1, bS, q1, bS, app_ok (by simp only [lim]; omega)]; rfl
theorem leaves_eq : ∀ (M : Nat) (c : GCut) (r : GRect) (k : Int), nT c ≤ M → nT c ≤ 1000000 → 1 ≤ r.W → r.W ≤ 100000 → 1 ≤ r.H → r.H ≤ 100000 → 0 ≤ k → k ≤ 100 →
    (∃ xs : List Gsurvey_leaf, (∀ l : List Gsurvey_leaf, l.length + nT c ≤ 2000000 → f_survey_leaves M l c r k = some (l ++ xs, true)) ∧ f_ref09_Leaves M c r k = some (xs.map toL, true) ∧ xs.length ≤ nT c)
    ∨ (∀ l : List Gsurvey_leaf, l.length + nT c ≤ 2000000 → ∃ l', f_survey_leaves M l c r k = some (l', false)) ∧ ∃ z, f_ref09_Leaves M c r k = some (z, false) := by
  intro M
  induction M with
  | zero => intro c r k h; have := nT_pos c; omega
  | succ M ih =>
    intro c r k h h2 w1 w2 h3 h4 k1 k2
    have hp := nT_pos c
    have hP : ∀ l : List Gsurvey_leaf, l.length + nT c ≤ 2000000 → _ := fun l hl => leaves_prog (M := M) (c := c) w1 w2 h3 h4 k1 k2 (l := l) (by omega)
    have hR := leaves_ref (M := M) (c := c) (r := r) (k := k) w1 h3 h2
    by_cases e : c.First = [] ∧ c.Rest = []
    · rw [if_pos e] at hR
      by_cases g : c.At ≠ 0 ∨ c.Across = true ∨ c.Piece < -1
      · refine .inr ⟨fun l hl => ⟨l, ?_⟩, [], ?_⟩
        · rw [hP l hl, if_pos e, if_pos g]
        · rw [hR]
          by_cases p : c.Piece < -1
          · rw [if_pos p]
          · rw [if_neg p, if_pos (by rcases g with g | g | g; exact .inl g; exact .inr g; exact absurd g p)]
      · have g' : ¬ c.Piece < -1 := fun x => g (.inr (.inr x))
        have g'' : ¬ (c.At ≠ 0 ∨ c.Across = true) := fun x => g (x.elim .inl fun y => .inr (.inl y))
        rw [if_neg g', if_neg g''] at hR
        by_cases q : 0 ≤ c.Piece
        · refine .inl ⟨[⟨c.Piece, c.Turned, r⟩], fun l hl => ?_, ?_, hp⟩
          · rw [hP l hl, if_pos e, if_neg g, if_pos q]
          · rw [hR, if_neg (by omega)]; rfl
        · refine .inl ⟨[], fun l hl => ?_, ?_, Nat.zero_le _⟩
          · rw [hP l hl, if_pos e, if_neg g, if_neg q, List.append_nil]
          · rw [hR, if_pos (by omega)]; rfl
    · rw [if_neg e] at hR
      by_cases b : badN c
      · refine .inr ⟨fun l hl => ⟨l, ?_⟩, [], ?_⟩
        · rw [hP l hl, if_neg e, if_pos (.inl b)]
        · rw [hR]
          by_cases p : c.Piece < -1
          · rw [if_pos p]
          · rw [if_neg p, if_pos (.inl b)]
      · have hpc : c.Piece = -1 := by unfold badN at b; omega
        have hat : 0 < c.At := by unfold badN at b; omega
        have hn := good_nT b
        rw [if_neg (by omega)] at hR
        have hf := nT_pos c.First[0]!
        have hg := nT_pos c.Rest[0]!
        by_cases q : (bif c.Across then r.H - k - 1 else r.W - k - 1) < c.At
        · refine .inr ⟨fun l hl => ⟨l, ?_⟩, ?_⟩
          · rw [hP l hl, if_neg e, if_pos (.inr q)]
          · by_cases u : 200000 < c.At
            · exact ⟨[], by rw [hR, if_pos (.inr u)]⟩
            · obtain ⟨xs, d, p1, p2⟩ := leaves_tot M c.First[0]! (rectA c r k) k (by omega) (by omega)
              obtain ⟨M', rfl⟩ : ∃ x, M = x + 1 := ⟨M - 1, by omega⟩
              have hs : (rectB c r k).W < 1 ∨ (rectB c r k).H < 1 := by
                unfold rectB
                cases ha : c.Across with
                | true =>
                  rw [ha, cnT] at q
                  right
                  show IntKind.i64.wrap (IntKind.i64.wrap (r.H - c.At) - k) < 1
                  rw [w64i (n := r.H - c.At) (by omega) (by omega), w64i (by omega) (by omega)]; omega
                | false =>
                  rw [ha, cnF] at q
                  left
                  show IntKind.i64.wrap (IntKind.i64.wrap (r.W - c.At) - k) < 1
                  rw [w64i (n := r.W - c.At) (by omega) (by omega), w64i (by omega) (by omega)]; omega
              refine ⟨xs, ?_⟩
              rw [hR, if_neg (by rintro (x | x); exact b x; exact u x), p1, bS, leaves_small hs, bS, app_ok (by simp only [List.length_nil, lim]; omega), bS, List.append_nil, Bool.and_false]
        · have u : ¬ 200000 < c.At := by
            cases ha : c.Across with
            | true => rw [ha, cnT] at q; omega
            | false => rw [ha, cnF] at q; omega
          rw [if_neg (by rintro (x | x); exact b x; exact u x)] at hR
          have hA : 1 ≤ (rectA c r k).W ∧ (rectA c r k).W ≤ 100000 ∧ 1 ≤ (rectA c r k).H ∧ (rectA c r k).H ≤ 100000 := by
            unfold rectA
            cases ha : c.Across with
            | true =>
              rw [ha, cnT] at q
              exact ⟨w1, w2, (by show 1 ≤ c.At; omega), (by show c.At ≤ 100000; omega)⟩
            | false =>
              rw [ha, cnF] at q
              exact ⟨(by show 1 ≤ c.At; omega), (by show c.At ≤ 100000; omega), h3, h4⟩
          have hB : 1 ≤ (rectB c r k).W ∧ (rectB c r k).W ≤ 100000 ∧ 1 ≤ (rectB c r k).H ∧ (rectB c r k).H ≤ 100000 := by
            unfold rectB
            cases ha : c.Across with
            | true =>
              rw [ha, cnT] at q
              refine ⟨w1, w2, ?_⟩
              show 1 ≤ IntKind.i64.wrap (IntKind.i64.wrap (r.H - c.At) - k) ∧ IntKind.i64.wrap (IntKind.i64.wrap (r.H - c.At) - k) ≤ 100000
              rw [w64i (n := r.H - c.At) (by omega) (by omega), w64i (by omega) (by omega)]; omega
            | false =>
              rw [ha, cnF] at q
              have t : 1 ≤ IntKind.i64.wrap (IntKind.i64.wrap (r.W - c.At) - k) ∧ IntKind.i64.wrap (IntKind.i64.wrap (r.W - c.At) - k) ≤ 100000 := by
                rw [w64i (n := r.W - c.At) (by omega) (by omega), w64i (by omega) (by omega)]; omega
              exact ⟨t.1, t.2, h3, h4⟩
          have nq : ¬ (badN c ∨ (bif c.Across then r.H - k - 1 else r.W - k - 1) < c.At) := by rintro (x | x); exact b x; exact q x
          rcases ih c.First[0]! (rectA c r k) k (by omega) (by omega) hA.1 hA.2.1 hA.2.2.1 hA.2.2.2 k1 k2 with ⟨xs, x1, x2, x3⟩ | ⟨x1, z, x2⟩
          · rcases ih c.Rest[0]! (rectB c r k) k (by omega) (by omega) hB.1 hB.2.1 hB.2.2.1 hB.2.2.2 k1 k2 with ⟨ys, y1, y2, y3⟩ | ⟨y1, z, y2⟩
            · refine .inl ⟨xs ++ ys, fun l hl => ?_, ?_, by rw [List.length_append]; omega⟩
              · rw [hP l hl, if_neg e, if_neg nq, x1 l (by omega), bS, Bool.not_true, cnF, y1 (l ++ xs) (by rw [List.length_append]; omega), bS, List.append_assoc]
              · rw [hR, x2, bS, y2, bS, app_ok (by simp only [List.length_map, lim]; omega), bS, List.map_append]; rfl
            · refine .inr ⟨fun l hl => ?_, ?_⟩
              · obtain ⟨l', t⟩ := y1 (l ++ xs) (by rw [List.length_append]; omega)
                exact ⟨l', by rw [hP l hl, if_neg e, if_neg nq, x1 l (by omega), bS, Bool.not_true, cnF, t, bS]⟩
              · obtain ⟨zs, d, p1, p2⟩ := leaves_tot M c.Rest[0]! (rectB c r k) k (by omega) (by omega)
                rw [p1] at y2
                obtain ⟨rfl, rfl⟩ : zs = z ∧ d = false := by injection y2 with y2; injection y2 with a b; exact ⟨a, b⟩
                exact ⟨xs.map toL ++ zs, by rw [hR, x2, bS, p1, bS, app_ok (by simp only [List.length_map, lim]; omega), bS, Bool.and_false]⟩
          · refine .inr ⟨fun l hl => ?_, ?_⟩
            · obtain ⟨l', t⟩ := x1 l (by omega)
              exact ⟨l', by rw [hP l hl, if_neg e, if_neg nq, t, bS, Bool.not_false, cnT]⟩
            · obtain ⟨ws, d0, o1, o2⟩ := leaves_tot M c.First[0]! (rectA c r k) k (by omega) (by omega)
              rw [o1] at x2
              obtain ⟨rfl, rfl⟩ : ws = z ∧ d0 = false := by injection x2 with x2; injection x2 with a b; exact ⟨a, b⟩
              obtain ⟨zs, d, p1, p2⟩ := leaves_tot M c.Rest[0]! (rectB c r k) k (by omega) (by omega)
              exact ⟨ws ++ zs, by rw [hR, o1, bS, p1, bS, app_ok (by simp only [lim]; omega), bS, Bool.false_and]⟩
end Go.KB
