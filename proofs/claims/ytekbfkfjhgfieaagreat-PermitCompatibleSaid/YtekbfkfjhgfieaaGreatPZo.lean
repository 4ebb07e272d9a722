/- Plain laws of chapter 7: near, exclusion and needs of the reference. Plain laws of chapter 7: which sets of permits are possible. No condition. -/
import Derived.Test.YtekbfkfjhgfieaaGreatPZn
namespace Go.KB
set_option linter.unusedVariables false
theorem lists_eq {N : Nat} {y : GSpace} {s : Str} (hl : y.Next.length < 1000000) (hN : 1000000 ≤ N) : f_ref07_lists N y s = some (inL y.Next s) := by
 unfold f_ref07_lists
 have e : inL y.Next s = y.Next.any (fun x => decide (x = s)) := by
  unfold inL; congr 1; funext x; exact decide_eq_decide.2 ⟨Eq.symm, Eq.symm⟩
 rw [e]
 refine loop_any (fun i hi => ?_) ?_ (by omega)
 ·unfold f_ref07_lists_L1
  rw [cmp_lss, dT (by omega), cond_true, idx_nat hi, bS, cmpS_eql, w64s (by omega)]
 ·unfold f_ref07_lists_L1
  rw [cmp_lss, dF (by omega), cond_false]
theorem idxS_at {p : GPermitPlan} {s : Str} (h : hasS p s = true) : idx p.Spaces (ixI (isS s) p.Spaces) = some (atS p s) := by
 obtain ⟨i, hi, e1, e2⟩ := ixS h
 rw [e1, idxB hi, e2]
theorem rDistance_eq {N : Nat} {p : GPermitPlan} {a b : Str} (hp : SmP p) (ha : hasS p a = true) (hb : hasS p b = true) (hN : 1000000 ≤ N) : f_ref07_Distance N p a b = some (nearQ p a b) := by
  have hs := hp.s
  have h1 := hp.next a
  have h2 := hp.next b
  unfold f_ref07_Distance nearQ
  rw [cmpS_eql]
  by_cases h : a = b
  · rw [dT h, if_pos h]; rfl
  · rw [dF h, if_neg h, cond_false, rSpace_eq (by omega) hN, bS, idxS_at ha, bS, lists_eq (by omega) hN, bS, rSpace_eq (by omega) hN]
    cases inL (atS p a).Next b with
    | true => rfl
    | false =>
      simp only [Bool.not_false, cond_true, bS, idxS_at hb, lists_eq (show (atS p b).Next.length < 1000000 by omega) hN]
      cases inL (atS p b).Next a <;> rfl
theorem rExcludes_eq {N : Nat} {p : GPermitPlan} {i k : Nat} (hp : SmP p) (ho : OkP p) (hi : i < p.Permits.length) (hk : k < p.Permits.length) (hN : 1000000 ≤ N) : f_ref07_Excludes N p (i : Int) (k : Int) = some (exclQ p p.Permits[i]! p.Permits[k]!) := by
  have hx := hp.x
  unfold f_ref07_Excludes exclQ
  rw [cmp_eql]
  by_cases h : i = k
  · subst h; rw [dT rfl, dT rfl]; rfl
  · rw [dF (by omega), dF (fun e => h (ho.pd i k hi hk e)), cond_false, cond_false, idxB hi, bS, idxB hk, bS, rDistance_eq hp (ho.pk _ (mem_bang hi)).2.2.2.2 (ho.pk _ (mem_bang hk)).2.2.2.2 hN, bS]
    refine loop_any (fun j hj => ?_) ?_ (by omega)
    · unfold f_ref07_Excludes_L1 exE
      rw [cmp_lss, dT (by omega), cond_true, idx_nat hj, bS, w64s (by omega)]
      simp only [cmp_leq, cmp_eql]
      rw [Bool.and_comm]
    · unfold f_ref07_Excludes_L1
      rw [cmp_lss, dF (by omega), cond_false]
end Go.KB
namespace Go.KB
set_option linter.unusedVariables false
theorem loop_allR {α : Type} {l : List α} {N : Nat} {f : Int → Option (Int ⊕ (Unit ⊕ Bool))} {g : α → Bool} (hf : ∀ (i : Nat) (h : i < l.length), f (i : Int) = bif g l[i] then some (.inl ((i + 1 : Nat) : Int)) else some (.inr (.inr false))) (he : f (l.length : Int) = some (.inr (.inl ()))) (hN : l.length < N) :
  loopN f N 0 = some (bif l.all g then Sum.inl () else Sum.inr false) := by
 rw [loop_R (fun i => bif (l.drop i).all g then .inl () else .inr false) (fun i hi => ?_) (by simp [he]) hN]
 ·rw [List.drop_zero]
 ·rw [hf i hi]
  simp only [drop_at hi, List.all_cons]
  cases g l[i]
  ·exact .inr rfl
  ·exact .inl ⟨rfl, by simp⟩
theorem loop_allI {n N : Nat} {f : Int → Option (Int ⊕ (Unit ⊕ Bool))} {g : Nat → Bool} (hf : ∀ (i : Nat), i < n → f (i : Int) = bif g i then some (.inl ((i + 1 : Nat) : Int)) else some (.inr (.inr false))) (he : f (n : Int) = some (.inr (.inl ()))) (hN : n < N) :
  loopN f N 0 = some (bif (List.range n).all g then Sum.inl () else Sum.inr false) :=
 loop_allR (l := List.range n) (fun i hi => by rw [List.getElem_range]; exact hf i (by simpa using hi)) (by rw [List.length_range]; exact he) (by rw [List.length_range]; exact hN)
def possB (p : GPermitPlan) (l : List GPermit) : Bool := (List.range l.length).all fun i => (l.take i).all (fun y => !exclQ p l[i]! y) && l[i]!.Locks.all (fun k => l.any fun y => decide (y.Name = k))
theorem possB_iff {p : GPermitPlan} {l : List GPermit} : possB p l = true ↔ (∀ x ∈ l, ∀ y ∈ l, exclQ p x y = false) ∧ ∀ x ∈ l, ∀ k ∈ x.Locks, ∃ y ∈ l, y.Name = k := by
 unfold possB
 simp only [List.all_eq_true, Bool.and_eq_true, List.mem_range, List.any_eq_true, decide_eq_true_eq, Bool.not_eq_true']
 constructor
 ·intro h
  have key : ∀ i j, i < j → j < l.length → exclQ p l[j]! l[i]! = false := fun i j hij hj => (h j hj).1 _ (by
   rw [bang (show i < l.length by omega)]
   exact List.mem_take_iff_getElem.2 ⟨i, by omega, rfl⟩)
  refine ⟨fun x hx y hy => ?_, fun x hx k hk => ?_⟩
  ·obtain ⟨i, hi, rfl⟩ := List.getElem_of_mem hx
   obtain ⟨j, hj, rfl⟩ := List.getElem_of_mem hy
   rw [← bang hi, ← bang hj]
   rcases Nat.lt_trichotomy i j with h1 | h1 | h1
   ·rw [exclQ_comm]; exact key i j h1 hj
   ·subst h1; exact exclQ_self p _
   ·exact key j i h1 hi
  ·obtain ⟨i, hi, rfl⟩ := List.getElem_of_mem hx
   exact (h i hi).2 k (by rw [bang hi]; exact hk)
 ·rintro ⟨h1, h2⟩ i hi
  exact ⟨fun y hy => h1 _ (mem_bang hi) y (List.mem_of_mem_take hy), fun k hk => h2 _ (mem_bang hi) k hk⟩
theorem possible_eq {N : Nat} {p : GPermitPlan} {l : List GPermit} (hp : SmP p) (hl : l.length < 1000000) (hk : ∀ x ∈ l, x.Locks.length < 1000) (hN : 1000000 ≤ N) : f_permit_possible N p l = some (possB p l) := by
 have h3 : loopN (f_permit_possible_L3 N p l) N 0 = some (bif possB p l then Sum.inl () else Sum.inr false) := by
  unfold possB
  refine loop_allI (fun i hi => ?_) ?_ (by omega)
  ·unfold f_permit_possible_L3
   rw [cmp_lss, dT (by omega), cond_true, idx_nat hi, bS, show slc l 0 (i : Int) = some ((l.take i).drop 0) from slc_ok (a := 0) (Nat.zero_le _) (by omega), bS, List.drop_zero]
   have hti : (l.take i).length = i := by rw [List.length_take]; omega
   have h2 : loopN (f_permit_possible_L2 N p l[i] (l.take i)) N 0 = some (bif (l.take i).all (fun y => !exclQ p l[i] y) then Sum.inl () else Sum.inr false) := by
    refine loop_allR (fun j hj => ?_) ?_ (by omega)
    ·unfold f_permit_possible_L2
     rw [cmp_lss, dT (by omega), cond_true, idx_nat hj, bS, conflict_eq hp hN, bS, w64s (by omega)]
     cases exclQ p l[i] (l.take i)[j] <;> rfl
    ·unfold f_permit_possible_L2
     rw [cmp_lss, dF (by omega), cond_false]
   have hlk := hk _ (List.getElem_mem hi)
   have h1 : loopN (f_permit_possible_L1 N l l[i]) N 0 = some (bif l[i].Locks.all (fun k => l.any fun y => decide (y.Name = k)) then Sum.inl () else Sum.inr false) := by
    refine loop_allR (fun j hj => ?_) ?_ (by omega)
    ·unfold f_permit_possible_L1 f_slices_ContainsFunclapi_Permit_api_Permit
     rw [cmp_lss, dT (by omega), cond_true, idx_nat hj, bS, IndexP_eq (g := fun y => decide (y.Name = l[i].Locks[j])) (fun y => by unfold f_permit_possible_1; rw [cmpS_eql]) hl hN, bS, ixI_ge, bS, w64s (by omega)]
     cases l.any (fun y => decide (y.Name = l[i].Locks[j])) <;> rfl
    ·unfold f_permit_possible_L1
     rw [cmp_lss, dF (by omega), cond_false]
   rw [h2, h1, bang hi, w64s (by omega), bS]
   cases (l.take i).all (fun y => !exclQ p l[i] y) with
   | false => rfl
   | true => cases l[i].Locks.all (fun k => l.any fun y => decide (y.Name = k)) <;> rfl
  ·unfold f_permit_possible_L3
   rw [cmp_lss, dF (by omega), cond_false]
 unfold f_permit_possible
 rw [h3]
 cases possB p l <;> rfl
def eC (p : GPermitPlan) (l : List Str) (i : Nat) : Int := if hasP p l[i]! = false then 6 else if inL (l.take i) l[i]! = true then 5 else 0
def compE (p : GPermitPlan) (l : List Str) : Int := firstErr (eC p l) l.length 0
def CompR (p : GPermitPlan) (l : List Str) : Bool × Int := if checkPlan p ≠ 0 then (false, checkPlan p) else if compE p l = 0 then (possB p (l.map (atP p)), 0) else (false, compE p l)
theorem Compatible_eq {N : Nat} {p : GPermitPlan} {l : List Str} (hp : SmP p) (hl : l.length < 1000000) (hN : 1000000 ≤ N) : f_permit_Compatible N p l = some (CompR p l) := by
  have hlim : lim ≥ 10000000 := by decide
  have hm := hp.m
  unfold f_permit_Compatible CompR
  rw [CheckPlan_eq hp hN, bS, cmp_neq]
  by_cases h : checkPlan p = 0
  · rw [dT h, if_neg (by simp [h]), Bool.not_true, cond_false]
    have hloop := loop_errG (N := N) (f := f_permit_Compatible_L1 N p l) (n := l.length) (e := eC p l) (fin := Sum.inl (l.map (atP p))) (err := fun e => Sum.inr (false, e)) (fun i => ((l.take i).map (atP p), (i : Int))) (fun i hi _ => by
      unfold f_permit_Compatible_L1 eC
      simp only []
      rw [cmp_lss, dT (by omega), cond_true, idx_nat hi, bS, permitOf_eq (by omega) hN, bS, findO_snd, bang hi]
      show (bif !hasP p l[i] then _ else _) = _
      cases hh : hasP p l[i] with
      | false => rfl
      | true =>
        simp only [Bool.not_true, cond_false]
        have hti : (l.take i).length = i := by rw [List.length_take]; omega
        rw [show slc l 0 (i : Int) = some ((l.take i).drop 0) from slc_ok (a := 0) (Nat.zero_le _) (by omega), bS, List.drop_zero, ContS_eq (by omega) hN, bS]
        cases inL (l.take i) l[i] with
        | true => rfl
        | false =>
          rw [cond_false, app7 (by rw [List.length_map, hti]; simp only [List.length_singleton]; omega), bS, w64s (by omega), List.take_succ_eq_append_getElem hi, List.map_append]; rfl) (fun _ => by
      unfold f_permit_Compatible_L1
      simp only []
      rw [cmp_lss, dF (by omega), cond_false, List.take_length]) (by omega)
    rw [show (([] : List GPermit), (0 : Int)) = ((l.take 0).map (atP p), ((0 : Nat) : Int)) from by simp, hloop]
    unfold compE errOr
    by_cases he : firstErr (eC p l) l.length 0 = 0
    · rw [if_pos he, if_pos he, bS, Sum.elim_inl, possible_eq hp (by rw [List.length_map]; exact hl) (fun x hx => ?_) hN]
      · rfl
      · obtain ⟨s, hs, rfl⟩ := List.mem_map.1 hx
        obtain ⟨j, hj, rfl⟩ := List.getElem_of_mem hs
        have := firstErr_zero he j (by omega) (by omega)
        unfold eC at this
        rw [bang hj] at this
        split at this
        · cases this
        · rename_i hh; exact hp.l _ (atP_spec (by simpa using hh)).1
    · rw [if_neg he, if_neg he]; rfl
  · rw [dF h, if_pos h]; rfl
def possR (p : GPermitPlan) (S : Str → Bool) : Bool := (List.range p.Permits.length).all fun i => (bif S p.Permits[i]!.Name then p.Permits[i]!.Locks.all S else true) && (List.range i).all fun k => !(S p.Permits[i]!.Name && S p.Permits[k]!.Name && exclQ p p.Permits[i]! p.Permits[k]!)
theorem possR_iff {p : GPermitPlan} {S : Str → Bool} : possR p S = true ↔ (∀ x ∈ p.Permits, ∀ y ∈ p.Permits, S x.Name = true → S y.Name = true → exclQ p x y = false) ∧ ∀ x ∈ p.Permits, S x.Name = true → ∀ k ∈ x.Locks, S k = true := by
 unfold possR
 simp only [List.all_eq_true, Bool.and_eq_true, List.mem_range, Bool.not_eq_true', Bool.and_eq_false_iff]
 constructor
 ·intro h
  have key : ∀ i j, i < j → j < p.Permits.length → S p.Permits[j]!.Name = true → S p.Permits[i]!.Name = true → exclQ p p.Permits[j]! p.Permits[i]! = false := fun i j hij hj h1 h2 => by
   rcases (h j hj).2 i hij with (h3 | h3) | h3
   ·rw [h1] at h3; cases h3
   ·rw [h2] at h3; cases h3
   ·exact h3
  refine ⟨fun x hx y hy sx sy => ?_, fun x hx sx k hk => ?_⟩
  ·obtain ⟨i, hi, rfl⟩ := List.getElem_of_mem hx
   obtain ⟨j, hj, rfl⟩ := List.getElem_of_mem hy
   rw [← bang hi] at sx ⊢
   rw [← bang hj] at sy ⊢
   rcases Nat.lt_trichotomy i j with h1 | h1 | h1
   ·rw [exclQ_comm]; exact key i j h1 hj sy sx
   ·subst h1; exact exclQ_self p _
   ·exact key j i h1 hi sx sy
  ·obtain ⟨i, hi, rfl⟩ := List.getElem_of_mem hx
   have := (h i hi).1
   rw [bang hi, sx, cond_true, List.all_eq_true] at this
   exact this k hk
 ·rintro ⟨h1, h2⟩ i hi
  refine ⟨?_, fun k hk => ?_⟩
  ·cases hs : S p.Permits[i]!.Name with
   | false => rfl
   | true => rw [cond_true, List.all_eq_true]; exact h2 _ (mem_bang hi) hs
  ·cases hs : S p.Permits[i]!.Name with
   | false => exact .inl (.inl rfl)
   | true =>
    cases ht : S p.Permits[k]!.Name with
    | false => exact .inl (.inr rfl)
    | true => exact .inr (h1 _ (mem_bang hi) _ (mem_bang (by omega)) hs ht)
theorem poss_same {p : GPermitPlan} (ho : OkP p) {l : List Str} (hl : ∀ s ∈ l, hasP p s = true) : possB p (l.map (atP p)) = possR p (inL l) := by
 have hmem : ∀ x, x ∈ l.map (atP p) ↔ x ∈ p.Permits ∧ x.Name ∈ l := by
  intro x
  rw [List.mem_map]
  constructor
  ·rintro ⟨s, hs, rfl⟩
   obtain ⟨h1, h2⟩ := atP_spec (hl s hs)
   exact ⟨h1, by rw [h2]; exact hs⟩
  ·rintro ⟨h1, h2⟩; exact ⟨x.Name, h2, ho.atP_at h1⟩
 rw [Bool.eq_iff_iff, possB_iff, possR_iff]
 simp only [inL_iff]
 constructor
 ·rintro ⟨h1, h2⟩
  refine ⟨fun x hx y hy sx sy => h1 x ((hmem x).2 ⟨hx, sx⟩) y ((hmem y).2 ⟨hy, sy⟩), fun x hx sx k hk => ?_⟩
  obtain ⟨y, hy, rfl⟩ := h2 x ((hmem x).2 ⟨hx, sx⟩) k hk
  exact ((hmem y).1 hy).2
 ·rintro ⟨h1, h2⟩
  refine ⟨fun x hx y hy => h1 x ((hmem x).1 hx).1 y ((hmem y).1 hy).1 ((hmem x).1 hx).2 ((hmem y).1 hy).2, fun x hx k hk => ?_⟩
  have hkl := h2 x ((hmem x).1 hx).1 ((hmem x).1 hx).2 k hk
  exact ⟨atP p k, List.mem_map.2 ⟨k, hkl, rfl⟩, (atP_spec (hl k hkl)).2⟩
theorem rPossible_eq {N : Nat} {p : GPermitPlan} {S : Str → Bool} (hp : SmP p) (ho : OkP p) (hN : 1000000 ≤ N) : f_ref07_Possible N p (p.Permits.map fun y => S y.Name) = some (possR p S) := by
 have hm := hp.m
 have hI : ∀ i (hi : i < p.Permits.length), idx (p.Permits.map fun y => S y.Name) (i : Int) = some (S p.Permits[i]!.Name) := fun i hi => by
  rw [idx_nat (by rw [List.length_map]; exact hi), List.getElem_map, bang hi]
 have h3 : loopN (f_ref07_Possible_L3 N p (p.Permits.map fun y => S y.Name)) N 0 = some (bif possR p S then Sum.inl () else Sum.inr false) := by
  unfold possR
  refine loop_allI (fun i hi => ?_) ?_ (by omega)
  ·have hlk := hp.l _ (mem_bang hi)
   have h2 : loopN (f_ref07_Possible_L2 N p (p.Permits.map fun y => S y.Name) (i : Int)) N 0 = some (bif (bif S p.Permits[i]!.Name then p.Permits[i]!.Locks.all S else true) then Sum.inl () else Sum.inr false) := by
    cases hs : S p.Permits[i]!.Name with
    | false =>
     obtain ⟨M, rfl⟩ : ∃ M, N = M + 1 := ⟨N - 1, by omega⟩
     have e : f_ref07_Possible_L2 (M + 1) p (p.Permits.map fun y => S y.Name) (i : Int) 0 = some (.inr (.inl ())) := by
      unfold f_ref07_Possible_L2
      rw [idxB hi, bS, hI i hi, hs]
      cases cmpI .lss 0 (p.Permits[i]!.Locks.length : Int) <;> rfl
     simp only [loopN, e]; rfl
    | true =>
     rw [cond_true]
     refine loop_allR (fun j hj => ?_) ?_ (by omega)
     ·unfold f_ref07_Possible_L2
      have hh := (ho.lk _ (mem_bang hi) _ (List.getElem_mem hj)).1
      obtain ⟨q, hq, e1, e2⟩ := ixP hh
      rw [idxB hi, bS, hI i hi, hs, cmp_lss, dT (by omega), cond_true, bS, Bool.and_self, cond_true, bS, idx_nat hj, bS, rPermit_eq (by omega) hN, bS, e1, hI q hq, e2, (atP_spec hh).2, bS, w64s (by omega)]
      cases S p.Permits[i]!.Locks[j] <;> rfl
     ·unfold f_ref07_Possible_L2
      rw [idxB hi, bS, cmp_lss, dF (by omega)]; rfl
   have h1 : loopN (f_ref07_Possible_L1 N p (p.Permits.map fun y => S y.Name) (i : Int)) N 0 = some (bif (List.range i).all (fun k => !(S p.Permits[i]!.Name && S p.Permits[k]!.Name && exclQ p p.Permits[i]! p.Permits[k]!)) then Sum.inl () else Sum.inr false) := by
    refine loop_allI (fun k hk => ?_) ?_ (by omega)
    ·unfold f_ref07_Possible_L1
     rw [cmp_lss, dT (by omega), cond_true, hI i hi, bS, hI k (by omega), rExcludes_eq hp ho hi (show k < p.Permits.length by omega) hN, w64s (by omega)]
     cases S p.Permits[i]!.Name with
     | false => rfl
     | true =>
      cases S p.Permits[k]!.Name with
      | false => rfl
      | true => cases exclQ p p.Permits[i]! p.Permits[k]! <;> rfl
    ·unfold f_ref07_Possible_L1
     rw [cmp_lss, dF (by omega), cond_false]
   unfold f_ref07_Possible_L3
   rw [cmp_lss, dT (by omega), cond_true, h2, h1, bS, w64s (by omega)]
   cases (bif S p.Permits[i]!.Name then p.Permits[i]!.Locks.all S else true) with
   | false => rfl
   | true => cases (List.range i).all (fun k => !(S p.Permits[i]!.Name && S p.Permits[k]!.Name && exclQ p p.Permits[i]! p.Permits[k]!)) <;> rfl
  ·unfold f_ref07_Possible_L3
   rw [cmp_lss, dF (by omega), cond_false]
 unfold f_ref07_Possible
 rw [h3]
 cases possR p S <;> rfl
theorem inL_take {l : List Str} {i : Nat} (hi : i < l.length) {s : Str} : inL (l.take (i + 1)) s = (inL (l.take i) s || decide (s = l[i])) := by
 unfold inL; rw [List.take_succ_eq_append_getElem hi, List.any_append]; simp
theorem rCompatible_eq {N : Nat} {p : GPermitPlan} {l : List Str} (hp : SmP p) (hl : l.length < 1000000) (hN : 1000000 ≤ N) : f_ref07_Compatible N p l = some (CompR p l) := by
 have hlim : lim ≥ 10000000 := by decide
 have hm := hp.m
 unfold f_ref07_Compatible CompR
 rw [rCheckPlan_eq hp hN, bS, cmp_neq]
 by_cases h : checkPlan p = 0
 ·have ho := okP h
  rw [dT h, if_neg (by simp [h]), Bool.not_true, cond_false]
  have hmk : mk false (p.Permits.length : Int) (p.Permits.length : Int) = some (p.Permits.map fun y => inL (l.take 0) y.Name) := by
   unfold mk
   rw [dT (by omega), dT (by omega), dT (by omega)]
   refine congrArg some ?_
   refine List.ext_getElem (by simp) fun i hi _ => ?_
   simp [inL]
  rw [hmk, bS]
  have hloop := loop_errG (N := N) (f := f_ref07_Compatible_L1 N p l) (n := l.length) (e := eC p l) (fin := Sum.inl (p.Permits.map fun y => inL l y.Name)) (err := fun e => Sum.inr (false, e)) (fun i => (p.Permits.map fun y => inL (l.take i) y.Name, (i : Int))) (fun i hi _ => by
   unfold f_ref07_Compatible_L1 eC
   simp only []
   rw [cmp_lss, dT (by omega), cond_true, idx_nat hi, bS, rPermit_eq (by omega) hN, bS, cmp_lss, ixI_lt, bang hi]
   show (bif !hasP p l[i] then _ else _) = _
   cases hh : hasP p l[i] with
   | false => rfl
   | true =>
    simp only [Bool.not_true, cond_false]
    obtain ⟨q, hq, e1, e2⟩ := ixP hh
    have hnm : p.Permits[q]!.Name = l[i] := by rw [e2]; exact (atP_spec hh).2
    have hq' : p.Permits[q].Name = l[i] := by rw [← bang hq]; exact hnm
    have hidx : idx (p.Permits.map fun y => inL (l.take i) y.Name) (q : Int) = some (inL (l.take i) l[i]) := by
     rw [idx_nat (by rw [List.length_map]; exact hq), List.getElem_map, hq']
    rw [e1, hidx, bS]
    cases hin : inL (l.take i) l[i] with
    | true => rfl
    | false =>
     rw [cond_false, bS, w64s (by omega), Int.toNat_natCast]
     simp only [Bool.true_eq_false, if_false, Bool.false_eq_true, if_true]
     congr 3
     refine List.ext_getElem (by simp) fun j hj1 hj2 => ?_
     rw [List.getElem_set]
     simp only [List.getElem_map]
     simp only [List.length_set, List.length_map] at hj1
     rw [inL_take hi]
     by_cases e : q = j
     ·subst e; rw [if_pos rfl, hq', dT rfl, Bool.or_true]
     ·rw [if_neg e, dF, Bool.or_false]
      intro hx
      exact e (ho.pd q j hq hj1 (by rw [hnm, bang hj1]; exact hx.symm))) (fun _ => by
   unfold f_ref07_Compatible_L1
   simp only []
   rw [cmp_lss, dF (by omega), cond_false, List.take_length]) (by omega)
  rw [show (p.Permits.map (fun y => inL (l.take 0) y.Name), (0 : Int)) = (p.Permits.map (fun y => inL (l.take 0) y.Name), ((0 : Nat) : Int)) from rfl, hloop]
  unfold compE errOr
  by_cases he : firstErr (eC p l) l.length 0 = 0
  ·have hall : ∀ s ∈ l, hasP p s = true := by
    intro s hs
    obtain ⟨j, hj, rfl⟩ := List.getElem_of_mem hs
    have := firstErr_zero he j (by omega) (by omega)
    unfold eC at this
    rw [bang hj] at this
    split at this
    ·cases this
    ·rename_i hh; simpa using hh
   rw [if_pos he, if_pos he, bS, Sum.elim_inl, rPossible_eq hp ho hN, poss_same ho hall]; rfl
  ·rw [if_neg he, if_neg he]; rfl
 ·rw [dF h, if_pos h]; rfl
end Go.KB
