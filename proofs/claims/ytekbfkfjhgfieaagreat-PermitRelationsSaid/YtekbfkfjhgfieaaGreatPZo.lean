/- Plain laws of chapter 7: near, exclusion and needs of the reference. No condition. -/
import Derived.Test.YtekbfkfjhgfieaaGreatPZn
namespace Go.KB
set_option linter.unusedVariables false
theorem lists_eq {N : Nat} {y : GSpace} {s : Str} (hl : y.Next.length < 1000000) (hN : 1000000 ≤ N) : f_ref07_lists N y s = some (inL y.Next s) := by
 unfold f_ref07_lists
 have e : inL y.Next s = y.Next.any (fun x => decide (x = s)) := by
  unfold inL; congr 1; funext x; exact decide_eq_decide.2 ⟨Eq.symm, Eq.symm⟩
 rw [e]
 refine loop_any (fun i hi => ?_) ?_ (by omega)
 ·unfold f_ref07_lists_L1
  rw [cmp_lss, dT (by omega), cond_true, idx_nat hi, bS, cmpS_eql, w64s (by omega)]
 ·unfold f_ref07_lists_L1
  rw [cmp_lss, dF (by omega), cond_false]
theorem idxS_at {p : GPermitPlan} {s : Str} (h : hasS p s = true) : idx p.Spaces (ixI (isS s) p.Spaces) = some (atS p s) := by
 obtain ⟨i, hi, e1, e2⟩ := ixS h
 rw [e1, idxB hi, e2]
theorem rDistance_eq {N : Nat} {p : GPermitPlan} {a b : Str} (hp : SmP p) (ha : hasS p a = true) (hb : hasS p b = true) (hN : 1000000 ≤ N) : f_ref07_Distance N p a b = some (nearQ p a b) := by
  have hs := hp.s
  have h1 := hp.next a
  have h2 := hp.next b
  unfold f_ref07_Distance nearQ
  rw [cmpS_eql]
  by_cases h : a = b
  · rw [dT h, if_pos h]; rfl
  · rw [dF h, if_neg h, cond_false, rSpace_eq (by omega) hN, bS, idxS_at ha, bS, lists_eq (by omega) hN, bS, rSpace_eq (by omega) hN]
    cases inL (atS p a).Next b with
    | true => rfl
    | false =>
      simp only [Bool.not_false, cond_true, bS, idxS_at hb, lists_eq (show (atS p b).Next.length < 1000000 by omega) hN]
      cases inL (atS p b).Next a <;> rfl
theorem rNear_eq {N : Nat} {p : GPermitPlan} {a b : Str} (hp : SmP p) (hN : 1000000 ≤ N) : f_ref07_Near N p a b = some (NearR p a b) := by
  have hs := hp.s
  unfold f_ref07_Near NearR
  rw [rCheckPlan_eq hp hN, bS, cmp_neq]
  by_cases h : checkPlan p = 0
  · rw [dT h, if_neg (by simp [h]), Bool.not_true, cond_false, rSpace_eq (by omega) hN, rSpace_eq (by omega) hN, bS]
    simp only [cmp_lss, ixI_lt]
    show ((bif !!hasS p a then some (ixI (isS b) p.Spaces) else some 0).bind fun v3 => bif (!hasS p a || decide (v3 < 0)) then some ((0 : Int), (6 : Int)) else _) = _
    cases ha : hasS p a with
    | false => rfl
    | true =>
      simp only [Bool.not_true, Bool.not_false, cond_true, bS, Bool.false_or, ixI_lt]
      show (bif !hasS p b then _ else _) = _
      cases hb : hasS p b with
      | false => rfl
      | true => simp only [Bool.not_true, cond_false]; rw [rDistance_eq hp ha hb hN]; rfl
  · rw [dF h, if_pos h]; rfl
theorem Near_eq {N : Nat} {p : GPermitPlan} {a b : Str} (hp : SmP p) (hN : 1000000 ≤ N) : f_permit_Near N p a b = some (NearR p a b) := by
  have hs := hp.s
  unfold f_permit_Near NearR
  rw [CheckPlan_eq hp hN, bS, cmp_neq]
  by_cases h : checkPlan p = 0
  · rw [dT h, if_neg (by simp [h]), Bool.not_true, cond_false, spaceOf_eq (by omega) hN, spaceOf_eq (by omega) hN, bS, bS, findO_snd, findO_snd, near_eq hp hN]
    show (bif (!hasS p a || !hasS p b) then _ else _) = _
    cases (!hasS p a || !hasS p b) <;> rfl
  · rw [dF h, if_pos h]; rfl
theorem rExcludes_eq {N : Nat} {p : GPermitPlan} {i k : Nat} (hp : SmP p) (ho : OkP p) (hi : i < p.Permits.length) (hk : k < p.Permits.length) (hN : 1000000 ≤ N) : f_ref07_Excludes N p (i : Int) (k : Int) = some (exclQ p p.Permits[i]! p.Permits[k]!) := by
  have hx := hp.x
  unfold f_ref07_Excludes exclQ
  rw [cmp_eql]
  by_cases h : i = k
  · subst h; rw [dT rfl, dT rfl]; rfl
  · rw [dF (by omega), dF (fun e => h (ho.pd i k hi hk e)), cond_false, cond_false, idxB hi, bS, idxB hk, bS, rDistance_eq hp (ho.pk _ (mem_bang hi)).2.2.2.2 (ho.pk _ (mem_bang hk)).2.2.2.2 hN, bS]
    refine loop_any (fun j hj => ?_) ?_ (by omega)
    · unfold f_ref07_Excludes_L1 exE
      rw [cmp_lss, dT (by omega), cond_true, idx_nat hj, bS, w64s (by omega)]
      simp only [cmp_leq, cmp_eql]
      rw [Bool.and_comm]
    · unfold f_ref07_Excludes_L1
      rw [cmp_lss, dF (by omega), cond_false]
theorem Conflict_eq {N : Nat} {p : GPermitPlan} {a b : Str} (hp : SmP p) (hN : 1000000 ≤ N) : f_permit_Conflict N p a b = some (ConfR p a b) := by
  have hm := hp.m
  unfold f_permit_Conflict ConfR
  rw [CheckPlan_eq hp hN, bS, cmp_neq]
  by_cases h : checkPlan p = 0
  · rw [dT h, if_neg (by simp [h]), Bool.not_true, cond_false, permitOf_eq (by omega) hN, permitOf_eq (by omega) hN, bS, bS, findO_snd, findO_snd, conflict_eq hp hN]
    show (bif (!hasP p a || !hasP p b) then _ else _) = _
    cases (!hasP p a || !hasP p b) <;> rfl
  · rw [dF h, if_pos h]; rfl
theorem rConflict_eq {N : Nat} {p : GPermitPlan} {a b : Str} (hp : SmP p) (hN : 1000000 ≤ N) : f_ref07_Conflict N p a b = some (ConfR p a b) := by
  have hm := hp.m
  unfold f_ref07_Conflict ConfR
  rw [rCheckPlan_eq hp hN, bS, cmp_neq]
  by_cases h : checkPlan p = 0
  · rw [dT h, if_neg (by simp [h]), Bool.not_true, cond_false, rPermit_eq (by omega) hN, rPermit_eq (by omega) hN, bS, bS]
    simp only [cmp_lss, ixI_lt]
    show (bif (!hasP p a || !hasP p b) then _ else _) = _
    cases ha : hasP p a with
    | false => rfl
    | true =>
      cases hb : hasP p b with
      | false => rfl
      | true =>
        obtain ⟨i, hi, e1, e2⟩ := ixP ha
        obtain ⟨k, hk, f1, f2⟩ := ixP hb
        rw [e1, f1, rExcludes_eq hp (okP h) hi hk hN, e2, f2]; rfl
  · rw [dF h, if_pos h]; rfl
theorem Needs_eq {N : Nat} {p : GPermitPlan} {a : Str} (hp : SmP p) (hN : 1000000 ≤ N) : f_permit_Needs N p a = some (NeedR p a) := by
  have hm := hp.m
  unfold f_permit_Needs NeedR
  rw [CheckPlan_eq hp hN, bS, cmp_neq]
  by_cases h : checkPlan p = 0
  · rw [dT h, if_neg (by simp [h]), Bool.not_true, cond_false, permitOf_eq (by omega) hN, bS, findO_snd, needs_eq hp hN]
    show (bif (!hasP p a) then _ else _) = _
    cases hasP p a <;> rfl
  · rw [dF h, if_pos h]; rfl
def plS (p : GPermitPlan) (x : GPermit) : List Nat := (List.range p.Spaces.length).filter fun k => decide (nearQ p x.Space p.Spaces[k]!.Name = 1)
def spcQ (p : GPermitPlan) (x : GPermit) : List Int := bif needK x then ixI (isS x.Space) p.Spaces :: (bif decide (x.Kind = 0) then (plS p x).map (fun (k : Nat) => (k : Int)) else []) else []
theorem rSpaces_eq {N : Nat} {p : GPermitPlan} {i : Nat} (hp : SmP p) (ho : OkP p) (hi : i < p.Permits.length) (hN : 1000000 ≤ N) : f_ref07_Spaces N p (i : Int) = some (spcQ p p.Permits[i]!) := by
  have hs := hp.s
  have hlim : lim ≥ 1000000 := by decide
  unfold f_ref07_Spaces spcQ
  rw [idxB hi, bS]
  have hk : (((cmpI .neq p.Permits[i]!.Kind 0) && (cmpI .neq p.Permits[i]!.Kind 1)) && (cmpI .neq p.Permits[i]!.Kind 2)) = !needK p.Permits[i]! := by
    unfold needK; simp only [cmp_neq, Bool.not_or, Bool.and_assoc]
  rw [hk]
  cases needK p.Permits[i]! with
  | false => rfl
  | true =>
    simp only [Bool.not_true, cond_false, cond_true]
    rw [rSpace_eq (by omega) hN, bS]
    have hsp : hasS p p.Permits[i]!.Space = true := (ho.pk _ (mem_bang hi)).2.2.2.2
    by_cases h0 : p.Permits[i]!.Kind = 0
    · rw [loop_fm (f := f_ref07_Spaces_L1 N p p.Permits[i]!) (List.range p.Spaces.length) [ixI (isS p.Permits[i]!.Space) p.Spaces] (fun k => decide (nearQ p p.Permits[i]!.Space p.Spaces[k]!.Name = 1)) (fun (k : Nat) => (k : Int)) (fun a i => (a, i)) (fun a => a) (fun j hj acc hacc => ?_) (fun acc => ?_) (by simp; omega)]
      · rw [dT h0]; rfl
      · rw [List.length_range] at hj hacc
        unfold f_ref07_Spaces_L1
        simp only [List.getElem_range]
        rw [cmp_lss, dT (by omega), cmp_eql, dT h0, Bool.true_and, cond_true, idxB hj, bS, rDistance_eq hp hsp (hasS_iff.2 ⟨_, mem_bang hj, rfl⟩) hN, bS, cmp_eql, w64s (by omega)]
        cases decide (nearQ p p.Permits[i]!.Space p.Spaces[j]!.Name = 1) with
        | false => rfl
        | true => simp only [cond_true]; rw [app7 (by simp only [List.length_singleton] at hacc ⊢; omega)]; rfl
      · rw [List.length_range]
        unfold f_ref07_Spaces_L1
        simp only []
        rw [cmp_lss, dF (by omega), Bool.false_and, cond_false]
    · rw [dF h0, cond_false]
      obtain ⟨M, rfl⟩ : ∃ M, N = M + 1 := ⟨N - 1, by omega⟩
      have e : f_ref07_Spaces_L1 (M + 1) p p.Permits[i]! ([ixI (isS p.Permits[i]!.Space) p.Spaces], 0) = some (.inr [ixI (isS p.Permits[i]!.Space) p.Spaces]) := by
        unfold f_ref07_Spaces_L1
        simp only []
        rw [cmp_eql, dF h0, Bool.and_false, cond_false]
      simp only [loopN, e]; rfl
theorem filter_range {α : Type} [Inhabited α] {β : Type} (g : α → Bool) (h : α → β) (l : List α) : (((List.range l.length).filter fun k => g l[k]!).map fun k => h l[k]!) = (l.filter g).map h := by
 have : l = (List.range l.length).map fun k => l[k]! := by
  refine List.ext_getElem (by simp) fun i h1 h2 => ?_
  simp at h2
  simp [h1]
 conv => rhs; rw [this]
 rw [List.filter_map, List.map_map]; rfl
theorem rNeeds_eq {N : Nat} {p : GPermitPlan} {a : Str} (hp : SmP p) (hN : 1000000 ≤ N) : f_ref07_Needs N p a = some (NeedR p a) := by
 have hm := hp.m
 have hs := hp.s
 have hlim : lim ≥ 1000000 := by decide
 unfold f_ref07_Needs NeedR
 rw [rCheckPlan_eq hp hN, bS, cmp_neq]
 by_cases h : checkPlan p = 0
 ·have ho := okP h
  rw [dT h, if_neg (by simp [h]), Bool.not_true, cond_false, rPermit_eq (by omega) hN, bS]
  simp only [cmp_lss, ixI_lt]
  show (bif (!hasP p a) then _ else _) = _
  cases ha : hasP p a with
  | false => rfl
  | true =>
   simp only [Bool.not_true, cond_false]
   obtain ⟨i, hi, e1, e2⟩ := ixP ha
   have hsp : hasS p p.Permits[i]!.Space = true := (ho.pk _ (mem_bang hi)).2.2.2.2
   obtain ⟨s, hsl, f1, f2⟩ := ixS hsp
   rw [e1, rSpaces_eq hp ho hi hN, bS, ← e2]
   have hlen : (spcQ p p.Permits[i]!).length ≤ 1 + p.Spaces.length := by
    unfold spcQ plS
    cases needK p.Permits[i]! with
    | false => exact Nat.zero_le _
    | true =>
     rw [cond_true, List.length_cons]
     cases decide (p.Permits[i]!.Kind = 0) with
     | false => simp
     | true =>
      rw [cond_true, List.length_map]
      have := List.length_filter_le (fun k => decide (nearQ p p.Permits[i]!.Space p.Spaces[k]!.Name = 1)) (List.range p.Spaces.length)
      rw [List.length_range] at this; omega
   have hmem : ∀ k ∈ spcQ p p.Permits[i]!, ∃ j : Nat, k = (j : Int) ∧ j < p.Spaces.length := by
    intro k hk
    unfold spcQ at hk
    cases hn : needK p.Permits[i]! with
    | false => rw [hn] at hk; cases hk
    | true =>
     rw [hn, cond_true] at hk
     rcases List.mem_cons.1 hk with rfl | hk
     ·exact ⟨s, f1, hsl⟩
     ·cases h0 : decide (p.Permits[i]!.Kind = 0) with
      | false => rw [h0] at hk; cases hk
      | true =>
       rw [h0, cond_true, List.mem_map] at hk
       obtain ⟨j, hj, rfl⟩ := hk
       unfold plS at hj
       rw [List.mem_filter, List.mem_range] at hj
       exact ⟨j, rfl, hj.1⟩
   rw [loop_fm (f := f_ref07_Needs_L1 N p (spcQ p p.Permits[i]!)) (spcQ p p.Permits[i]!) [] (fun k => p.Spaces[k.toNat]!.Enclosed) (fun k => p.Spaces[k.toNat]!.Name) (fun a i => (a, i)) (fun a => a) (fun j hj acc hacc => ?_) (fun acc => ?_) (by omega)]
   ·rw [bS, List.nil_append]
    congr 2
    unfold spcQ needQ
    rw [← f2]
    have hnm : p.Spaces[s]!.Name = p.Permits[i]!.Space := by rw [f2]; exact (atS_spec hsp).2
    have hneed : p.Permits[i]!.Kind = 0 → needK p.Permits[i]! = true := fun e => by unfold needK; rw [e]; rfl
    cases hn : needK p.Permits[i]! with
    | false =>
     rw [dF (fun e => by rw [hneed e] at hn; cases hn)]; rfl
    | true =>
     rw [cond_true, Bool.true_and, f1, List.filter_cons, Int.toNat_natCast]
     have htail : ((bif decide (p.Permits[i]!.Kind = 0) then (plS p p.Permits[i]!).map (fun (k : Nat) => (k : Int)) else []).filter (fun k => p.Spaces[k.toNat]!.Enclosed)).map (fun k => p.Spaces[k.toNat]!.Name) = (bif decide (p.Permits[i]!.Kind = 0) then (p.Spaces.filter (fun y => y.Enclosed && decide (nearQ p y.Name p.Spaces[s]!.Name = 1))).map (fun y => y.Name) else []) := by
      cases decide (p.Permits[i]!.Kind = 0) with
      | false => rfl
      | true =>
       simp only [cond_true]
       unfold plS
       rw [List.filter_map, List.map_map, List.filter_filter, ← filter_range (fun y => y.Enclosed && decide (nearQ p y.Name p.Spaces[s]!.Name = 1)) (fun y => y.Name) p.Spaces]
       refine congrArg _ (List.filter_congr fun k hk => ?_)
       simp only [Function.comp_apply, Int.toNat_natCast]
       rw [hnm, nearQ_comm p p.Spaces[k]!.Name]
     cases he : p.Spaces[s]!.Enclosed with
     | true => simp only [cond_true, if_true, List.map_cons, htail]; rfl
     | false => simp only [cond_false, Bool.false_eq_true, if_false, htail]; rfl
   ·obtain ⟨k, hk, hkl⟩ := hmem _ (List.getElem_mem hj)
    simp only [List.length_nil] at hacc
    unfold f_ref07_Needs_L1
    simp only []
    rw [cmp_lss, dT (by omega), cond_true, idx_nat hj, bS, hk, idxB hkl, bS, bS, idxB hkl, bS, w64s (by omega), Int.toNat_natCast]
    cases p.Spaces[k]!.Enclosed with
    | false => rfl
    | true => simp only [cond_true]; rw [app7 (by simp only [List.length_singleton]; omega)]; rfl
   ·unfold f_ref07_Needs_L1
    simp only []
    rw [cmp_lss, dF (by omega), cond_false]
 ·rw [dF h, if_pos h]; rfl
theorem Texts_self {N : Nat} {l : List Str} (hl : l.length < 1000000) (hN : 1000000 ≤ N) : f_base_Texts N l l = some true := by
 unfold f_base_Texts
 rw [cmp_neq, dT rfl, Bool.not_true, cond_false]
 have h : ((loopN (f_base_Texts_L1 N l l) N 0).bind fun o => Sum.elim (fun _ => some true) (fun r => some r) o) = some (l.all fun _ => true) := by
  refine loop_all (fun i hi => ?_) ?_ (by omega)
  ·unfold f_base_Texts_L1
   rw [cmp_lss, dT (by omega), cond_true, idx_nat hi, bS, bS, cmpS_neq, dT rfl, w64s (by omega)]; rfl
  ·unfold f_base_Texts_L1
   rw [cmp_lss, dF (by omega), cond_false]
 rw [h]; simp
end Go.KB
