/- Plain laws of chapter 7: near, exclusion and needs of the reference. Plain laws of chapter 7: which sets of permits are possible. No condition. -/
import Derived.Test.YtekbfkfjhgfieaaGreatPZn
namespace Go.KB
set_option linter.unusedVariables false
theorem jA7 {N : Nat} {p : GPermitPlan} {a b : Str} (hp : SmP p) (hN : 1000000 ≤ N) : jUp N p a b = some (qY2 p a b) := by
  have hm := hp.m
  unfold jUp qY2
  rw [jLh hp hN, bS, jBl]
  by_cases h : jYx p = 0
  · rw [dT h, if_neg (by simp [h]), Bool.not_true, cond_false, jHy (by omega) hN, jHy (by omega) hN, bS, bS, jDd, jDd, jMz hp hN]
    show (bif (!jUs p a || !jUs p b) then _ else _) = _
    cases (!jUs p a || !jUs p b) <;> rfl
  · rw [dF h, if_pos h]; rfl
end Go.KB
namespace Go.KB
set_option linter.unusedVariables false
theorem jNk {α : Type} {l : List α} {N : Nat} {f : Int → Option (Int ⊕ (Unit ⊕ Bool))} {g : α → Bool} (hf : ∀ (i : Nat) (h : i < l.length), f (i : Int) = bif g l[i] then some (.inl ((i + 1 : Nat) : Int)) else some (.inr (.inr false))) (he : f (l.length : Int) = some (.inr (.inl ()))) (hN : l.length < N) :
  jXz f N 0 = some (bif l.all g then Sum.inl () else Sum.inr false) := by
 rw [jT3 (fun i => bif (l.drop i).all g then .inl () else .inr false) (fun i hi => ?_) (by simp [he]) hN]
 ·rw [List.drop_zero]
 ·rw [hf i hi]
  simp only [drop_at hi, List.all_cons]
  cases g l[i]
  ·exact .inr rfl
  ·exact .inl ⟨rfl, by simp⟩
theorem jCg {n N : Nat} {f : Int → Option (Int ⊕ (Unit ⊕ Bool))} {g : Nat → Bool} (hf : ∀ (i : Nat), i < n → f (i : Int) = bif g i then some (.inl ((i + 1 : Nat) : Int)) else some (.inr (.inr false))) (he : f (n : Int) = some (.inr (.inl ()))) (hN : n < N) :
  jXz f N 0 = some (bif (List.range n).all g then Sum.inl () else Sum.inr false) :=
 jNk (l := List.range n) (fun i hi => by rw [List.getElem_range]; exact hf i (by simpa using hi)) (by rw [List.length_range]; exact he) (by rw [List.length_range]; exact hN)
def jT9 (p : GPermitPlan) (l : List jJu) : Bool := (List.range l.length).all fun i => (l.take i).all (fun y => !jHs p l[i]! y) && l[i]!.Locks.all (fun k => l.any fun y => decide (y.Name = k))
theorem qV0 {p : GPermitPlan} {l : List jJu} : jT9 p l = true ↔ (∀ x ∈ l, ∀ y ∈ l, jHs p x y = false) ∧ ∀ x ∈ l, ∀ k ∈ x.Locks, ∃ y ∈ l, y.Name = k := by
 unfold jT9
 simp only [List.all_eq_true, Bool.and_eq_true, List.mem_range, List.any_eq_true, decide_eq_true_eq, Bool.not_eq_true']
 constructor
 ·intro h
  have key : ∀ i j, i < j → j < l.length → jHs p l[j]! l[i]! = false := fun i j hij hj => (h j hj).1 _ (by
   rw [jTf (show i < l.length by omega)]
   exact List.mem_take_iff_getElem.2 ⟨i, by omega, rfl⟩)
  refine ⟨fun x hx y hy => ?_, fun x hx k hk => ?_⟩
  ·obtain ⟨i, hi, rfl⟩ := List.getElem_of_mem hx
   obtain ⟨j, hj, rfl⟩ := List.getElem_of_mem hy
   rw [← jTf hi, ← jTf hj]
   rcases Nat.lt_trichotomy i j with h1 | h1 | h1
   ·rw [jNt]; exact key i j h1 hj
   ·subst h1; exact qQ1 p _
   ·exact key j i h1 hi
  ·obtain ⟨i, hi, rfl⟩ := List.getElem_of_mem hx
   exact (h i hi).2 k (by rw [jTf hi]; exact hk)
 ·rintro ⟨h1, h2⟩ i hi
  exact ⟨fun y hy => h1 _ (jFb hi) y (List.mem_of_mem_take hy), fun k hk => h2 _ (jFb hi) k hk⟩
theorem qJg {N : Nat} {p : GPermitPlan} {l : List jJu} (hp : SmP p) (hl : l.length < 1000000) (hk : ∀ x ∈ l, x.Locks.length < 1000) (hN : 1000000 ≤ N) : jUd N p l = some (jT9 p l) := by
 have h3 : jXz (jYg N p l) N 0 = some (bif jT9 p l then Sum.inl () else Sum.inr false) := by
  unfold jT9
  refine jCg (fun i hi => ?_) ?_ (by omega)
  ·unfold jYg
   rw [jJ9, dT (by omega), cond_true, jVx hi, bS, show slc l 0 (i : Int) = some ((l.take i).drop 0) from qJc (a := 0) (Nat.zero_le _) (by omega), bS, List.drop_zero]
   have hti : (l.take i).length = i := by rw [List.length_take]; omega
   have h2 : jXz (jYk N p l[i] (l.take i)) N 0 = some (bif (l.take i).all (fun y => !jHs p l[i] y) then Sum.inl () else Sum.inr false) := by
    refine jNk (fun j hj => ?_) ?_ (by omega)
    ·unfold jYk
     rw [jJ9, dT (by omega), cond_true, jVx hj, bS, jMz hp hN, bS, jBc (by omega)]
     cases jHs p l[i] (l.take i)[j] <;> rfl
    ·unfold jYk
     rw [jJ9, dF (by omega), cond_false]
   have hlk := hk _ (List.getElem_mem hi)
   have h1 : jXz (jYb N l l[i]) N 0 = some (bif l[i].Locks.all (fun k => l.any fun y => decide (y.Name = k)) then Sum.inl () else Sum.inr false) := by
    refine jNk (fun j hj => ?_) ?_ (by omega)
    ·unfold jYb jZb
     rw [jJ9, dT (by omega), cond_true, jVx hj, bS, jC5 (g := fun y => decide (y.Name = l[i].Locks[j])) (fun y => by unfold jYc; rw [jUa]) hl hN, bS, qY7, bS, jBc (by omega)]
     cases l.any (fun y => decide (y.Name = l[i].Locks[j])) <;> rfl
    ·unfold jYb
     rw [jJ9, dF (by omega), cond_false]
   rw [h2, h1, jTf hi, jBc (by omega), bS]
   cases (l.take i).all (fun y => !jHs p l[i] y) with
   | false => rfl
   | true => cases l[i].Locks.all (fun k => l.any fun y => decide (y.Name = k)) <;> rfl
  ·unfold jYg
   rw [jJ9, dF (by omega), cond_false]
 unfold jUd
 rw [h3]
 cases jT9 p l <;> rfl
def eC (p : GPermitPlan) (l : List Str) (i : Nat) : Int := if jUs p l[i]! = false then 6 else if inL (l.take i) l[i]! = true then 5 else 0
def qWr (p : GPermitPlan) (l : List Str) : Int := jQ8 (eC p l) l.length 0
def qWc (p : GPermitPlan) (l : List Str) : Bool × Int := if jYx p ≠ 0 then (false, jYx p) else if qWr p l = 0 then (jT9 p (l.map (atP p)), 0) else (false, qWr p l)
theorem jS5 {N : Nat} {p : GPermitPlan} {l : List Str} (hp : SmP p) (hl : l.length < 1000000) (hN : 1000000 ≤ N) : jKt N p l = some (qWc p l) := by
  have hlim : lim ≥ 10000000 := by decide
  have hm := hp.m
  unfold jKt qWc
  rw [jLh hp hN, bS, jBl]
  by_cases h : jYx p = 0
  · rw [dT h, if_neg (by simp [h]), Bool.not_true, cond_false]
    have hloop := jR1 (N := N) (f := jWf N p l) (n := l.length) (e := eC p l) (fin := Sum.inl (l.map (atP p))) (err := fun e => Sum.inr (false, e)) (fun i => ((l.take i).map (atP p), (i : Int))) (fun i hi _ => by
      unfold jWf eC
      simp only []
      rw [jJ9, dT (by omega), cond_true, jVx hi, bS, jHy (by omega) hN, bS, jDd, jTf hi]
      show (bif !jUs p l[i] then _ else _) = _
      cases hh : jUs p l[i] with
      | false => rfl
      | true =>
        simp only [Bool.not_true, cond_false]
        have hti : (l.take i).length = i := by rw [List.length_take]; omega
        rw [show slc l 0 (i : Int) = some ((l.take i).drop 0) from qJc (a := 0) (Nat.zero_le _) (by omega), bS, List.drop_zero, jPk (by omega) hN, bS]
        cases inL (l.take i) l[i] with
        | true => rfl
        | false =>
          rw [cond_false, qXr (by rw [List.length_map, hti]; simp only [List.length_singleton]; omega), bS, jBc (by omega), List.take_succ_eq_append_getElem hi, List.map_append]; rfl) (fun _ => by
      unfold jWf
      simp only []
      rw [jJ9, dF (by omega), cond_false, List.take_length]) (by omega)
    rw [show (([] : List jJu), (0 : Int)) = ((l.take 0).map (atP p), ((0 : Nat) : Int)) from by simp, hloop]
    unfold qWr jHh
    by_cases he : jQ8 (eC p l) l.length 0 = 0
    · rw [if_pos he, if_pos he, bS, Sum.elim_inl, qJg hp (by rw [List.length_map]; exact hl) (fun x hx => ?_) hN]
      · rfl
      · obtain ⟨s, hs, rfl⟩ := List.mem_map.1 hx
        obtain ⟨j, hj, rfl⟩ := List.getElem_of_mem hs
        have := jB1 he j (by omega) (by omega)
        unfold eC at this
        rw [jTf hj] at this
        split at this
        · cases this
        · rename_i hh; exact hp.l _ (jBa (by simpa using hh)).1
    · rw [if_neg he, if_neg he]; rfl
  · rw [dF h, if_pos h]; rfl
end Go.KB
