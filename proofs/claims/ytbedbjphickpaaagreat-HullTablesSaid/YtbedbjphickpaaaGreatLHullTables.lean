/- The plain law of HullTables: it returns true for every ship, list of draughts and density. No condition. -/
import Derived.Test.YtbedbjphickpaaaGreatPZf
namespace Go.KB
set_option linter.unusedVariables false
set_option maxRecDepth 100000

instance : Inhabited GHydro := ⟨zeroH⟩
section
variable {s : GShip} {l : List Int} {d : Int}
def hyV (s : GShip) (l : List Int) (i : Nat) : Rat := vQ s ((l[i]! : Int) : Rat) 0
def hyT (s : GShip) (l : List Int) (d : Int) (i : Nat) : GHydro := hydroQ s ((l[i]! : Int) : Rat) 0 d
def dryE (s : GShip) (l : List Int) (i : Nat) : Int := if hyV s l i = 0 then 29 else 0
def hyL (s : GShip) (l : List Int) (d : Int) (n : Nat) : List GHydro := (List.range n).map (hyT s l d)
theorem hyL_len {n : Nat} : (hyL s l d n).length = n := by simp [hyL]
theorem hyL_succ {n : Nat} : hyL s l d (n + 1) = hyL s l d n ++ [hyT s l d n] := by simp [hyL, List.range_succ]
theorem hyL_get {n i : Nat} (hi : i < n) : (hyL s l d n)[i]! = hyT s l d i := by simp [hyL, hi]
theorem gL64 {l : List Int} (h : gL (gI .i64) l) {i : Nat} (hi : i < l.length) : -9223372036854775808 ≤ l[i]! ∧ l[i]! ≤ 9223372036854775807 := by
  have := h.2 l[i]! (by rw [bang hi]; exact List.getElem_mem hi)
  obtain ⟨a, b⟩ := this
  have e1 : IntKind.i64.min = -9223372036854775808 := by decide
  have e2 : IntKind.i64.max = 9223372036854775807 := by decide
  omega
theorem Qf.zero {k : Nat} : Qf k zeroR 0 := by
  refine ⟨fun d hd => (by cases hd), fun d hd => (by cases hd), by simp [zeroR], by simp [zeroR], ?_⟩
  unfold rv below zeroR
  simp [ival, val, Rat.div_def]
end
section
variable {N : Nat} {s : GShip} {l : List Int} {d : Int} (hf : Fits s) (hd : 900 ≤ d ∧ d ≤ 1100) (hl : gL (gI .i64) l) (hn : l.length ≤ 1000) (hN : 2 ^ 64 ≤ N)
include hf hd hl hn hN
omit hl hn in
theorem hyd_one {i : Nat} (hi : i < l.length) {a : GAttitude} (h1 : Qf 64 a.Sink ((l[i]! : Int) : Rat)) (h2 : Qf 64 a.Slope 0) :
    f_hull_hydrostatics N s a d = some (if hyV s l i = 0 then (zeroH, false) else (hyT s l d i, true)) ∧ f_ref02_Hydrostatics N s a d = some (if hyV s l i = 0 then (zeroH, false) else (hyT s l d i, true)) :=
  ⟨hyd_eq hf h1 h2 (by omega) (K := 2 * 64 + 98) (by omega) (hf.y32 h1 h2) (by omega) (by omega) hN, rHyd_eq hf h1 h2 (by omega) (K := 2 * 64 + 98) (by omega) (hf.y32 h1 h2) (by omega) (by omega) hN⟩
theorem tab_loop : loopN (f_hull_Table_L1 N s l d) N ([], 0) = some (errOr (Sum.inl (hyL s l d l.length)) (fun z => Sum.inr ([], z)) (firstErr (dryE s l) l.length 0)) := by
  refine loop_errG (f := f_hull_Table_L1 N s l d) (e := dryE s l) (N := N) (n := l.length) (fin := Sum.inl (hyL s l d l.length)) (err := fun z => Sum.inr ([], z)) (fun i => (hyL s l d i, (i : Int))) (fun i hi _ => ?_) (fun _ => ?_) (by omega)
  · have hb := gL64 hl hi
    unfold f_hull_Table_L1
    simp only [cmp_lss]
    rw [dT (by omega), cond_true, idxB hi, bS, whole_eq (by omega) (by omega) hN, bS, (hyd_one hf hd hN hi (a := ⟨R ((l[i]! : Int) : Rat), ⟨⟨false, []⟩, ⟨false, []⟩⟩⟩) (Qf.R (Sz.i64 (by omega) (by omega))) Qf.zero).1, bS, w64s (by omega)]
    unfold dryE
    by_cases hv : hyV s l i = 0
    · rw [if_pos hv, if_pos hv, if_neg (by omega)]; rfl
    · rw [if_neg hv, if_neg hv, if_pos rfl]
      dsimp only
      rw [app_ok (by rw [hyL_len]; simp; unfold lim; omega), ← hyL_succ]; rfl
  · unfold f_hull_Table_L1
    simp only [cmp_lss]
    rw [dF (by omega)]; rfl
end
def tabE (s : GShip) (l : List Int) (d : Int) : Int := if bothE s d = 0 then (if 100 < l.length then 8 else firstErr (dryE s l) l.length 0) else bothE s d
theorem Table_eq {N : Nat} {s : GShip} {l : List Int} {d : Int} (ht : Tame s) (hl : gL (gI .i64) l) (hn : l.length ≤ 1000) (hN : 2 ^ 64 ≤ N) :
    f_hull_Table N s l d = some (if tabE s l d = 0 then (hyL s l d l.length, 0) else ([], tabE s l d)) := by
  unfold f_hull_Table tabE
  rw [floated_eq ht hN, bS, cmp_neq, cmp_gtr]
  by_cases hb : bothE s d = 0
  · obtain ⟨hs, hd⟩ := both_ok hb
    have hf := Fits.of ht hs
    have hd := dens_ok hd
    rw [dT hb, if_pos hb, Bool.not_true, cond_false]
    by_cases h1 : 100 < l.length
    · rw [dT (by omega), if_pos h1]; rfl
    · rw [dF (by omega), if_neg h1, cond_false, tab_loop hf hd hl hn hN, bS]
      unfold errOr
      by_cases hz : firstErr (dryE s l) l.length 0 = 0
      · rw [if_pos hz, if_pos hz]; rfl
      · rw [if_neg hz, if_neg hz]; rfl
  · rw [dF hb, if_neg hb, if_neg hb]; rfl
/- the list that the reference makes -/
section
variable {N : Nat} {s : GShip} {l : List Int} {d : Int}
theorem ref_stop {z : Int} {acc : List GHydro} {i : Nat} (hz : z ≠ 0) {M : Nat} (hM : 1 ≤ M) : loopN (f_law02_HullTables_L2 N s l d) M (z, acc, (i : Int)) = some (z, acc) := by
  obtain ⟨M, rfl⟩ : ∃ m, M = m + 1 := ⟨M - 1, by omega⟩
  have : f_law02_HullTables_L2 N s l d (z, acc, (i : Int)) = some (.inr (z, acc)) := by
    unfold f_law02_HullTables_L2
    simp only [cmp_eql]
    rw [dF hz, Bool.and_false]; rfl
  simp only [loopN, this]
theorem ref_loop (hf : Fits s) (hd : 900 ≤ d ∧ d ≤ 1100) (hl : gL (gI .i64) l) (hn : l.length ≤ 1000) (hN : 2 ^ 64 ≤ N) : ∀ (k i : Nat), i + k = l.length → (∀ j, j < i → dryE s l j = 0) → ∀ M, k + 1 < M →
    ∃ acc, loopN (f_law02_HullTables_L2 N s l d) M (0, hyL s l d i, (i : Int)) = some (firstErr (dryE s l) k i, acc) ∧ (firstErr (dryE s l) k i = 0 → acc = hyL s l d l.length) := by
  intro k
  induction k with
  | zero =>
    intro i hi _ M hM
    obtain ⟨M, rfl⟩ : ∃ m, M = m + 1 := ⟨M - 1, by omega⟩
    obtain rfl : i = l.length := by omega
    have : f_law02_HullTables_L2 N s l d (0, hyL s l d l.length, (l.length : Int)) = some (.inr (0, hyL s l d l.length)) := by
      unfold f_law02_HullTables_L2
      simp only [cmp_lss]
      rw [dF (by omega)]; rfl
    exact ⟨hyL s l d l.length, by simp only [loopN, this]; rfl, fun _ => rfl⟩
  | succ k ih =>
    intro i hi hz M hM
    obtain ⟨M, rfl⟩ : ∃ m, M = m + 1 := ⟨M - 1, by omega⟩
    have hil : i < l.length := by omega
    have hb := gL64 hl hil
    have h0 : Qf 64 (R ((0 : Int) : Rat)) 0 := Qf.R (Sz.zero.mono (by omega))
    have step : f_law02_HullTables_L2 N s l d (0, hyL s l d i, (i : Int)) = if hyV s l i = 0 then some (.inl (29, hyL s l d i ++ [zeroH], ((i + 1 : Nat) : Int))) else some (.inl (0, hyL s l d (i + 1), ((i + 1 : Nat) : Int))) := by
      unfold f_law02_HullTables_L2 f_ref02_Level
      simp only [cmp_lss, cmp_eql]
      rw [dT (by omega), dT trivial, Bool.and_self, cond_true, idxB hil, bS, W_R (by omega) (by omega) hN, bS, W_R (by omega) (by omega) hN, bS, bS, (hyd_one hf hd hN hil (a := ⟨R ((l[i]! : Int) : Rat), R ((0 : Int) : Rat)⟩) (Qf.R (Sz.i64 (by omega) (by omega))) h0).2, bS, w64s (by omega)]
      by_cases hv : hyV s l i = 0
      · rw [if_pos hv, if_pos hv]
        dsimp only
        rw [Bool.not_false, cond_true, app_ok (by rw [hyL_len]; simp; unfold lim; omega)]; rfl
      · rw [if_neg hv, if_neg hv]
        dsimp only
        rw [Bool.not_true, cond_false, app_ok (by rw [hyL_len]; simp; unfold lim; omega), ← hyL_succ]; rfl
    by_cases hv : hyV s l i = 0
    · rw [if_pos hv] at step
      have he : dryE s l i = 29 := by unfold dryE; rw [if_pos hv]
      refine ⟨hyL s l d i ++ [zeroH], ?_, fun h => ?_⟩
      · simp only [loopN, step]
        rw [ref_stop (by omega) (by omega), firstErr_s1 (by omega), he]
      · rw [firstErr_s1 (by omega), he] at h; cases h
    · rw [if_neg hv] at step
      have he : dryE s l i = 0 := by unfold dryE; rw [if_neg hv]
      simp only [loopN, step]
      rw [firstErr_s0 he]
      exact ih (i + 1) (by omega) (fun j hj => by
        rcases Nat.lt_succ_iff_lt_or_eq.1 hj with h | rfl
        · exact hz j h
        · exact he) M (by omega)
end
theorem law_HullTables (x0 : GShip) (x1 : List Int) (x2 : Int) (h0 : x0.ok) (h1 : gL (gI .i64) x1) (h2 : gI .i64 x2) : f_law02_HullTables (2 ^ 70) x0 x1 x2 = some true := by
  have hN : 2 ^ 64 ≤ (2 ^ 70 : Nat) := by decide
  unfold f_law02_HullTables
  rw [awake_true, bS, Bool.not_true, cond_false]
  obtain ⟨b, hb, ht⟩ := small_eq (s := x0) hN
  rw [hb, bS]
  cases b with
  | false => rfl
  | true =>
    have ht := ht rfl
    simp only [cmp_gtr, cmp_leq, Bool.not_true, Bool.false_or]
    cases hg : ((decide ((5 : Int) < (x1.length : Int)) && decide ((x1.length : Int) ≤ 100)) || decide ((110 : Int) < (x1.length : Int))) with
    | true => rfl
    | false =>
      simp only [Bool.or_eq_false_iff, decide_eq_false_iff_not] at hg
      have hn : x1.length ≤ 1000 := by omega
      have hc : f_base_CopyInts (2 ^ 70) x1 = some x1 := by
        unfold f_base_CopyInts
        rw [app_ok (by simp; unfold lim; omega)]; rfl
      rw [cond_false, hc, bS, Table_eq ht h1 hn hN, bS, both_eq ht hN, bS]
      have ho : ((bif ((cmpI .eql (bothE x0 x2) 0) && decide ((100 : Int) < (x1.length : Int))) then (some 8) else (some (bothE x0 x2))) : Option Int) = some (if bothE x0 x2 = 0 then (if 100 < x1.length then 8 else 0) else bothE x0 x2) := by
        rw [cmp_eql]
        by_cases hz : bothE x0 x2 = 0
        · rw [dT hz, if_pos hz, Bool.true_and]
          by_cases hl : 100 < x1.length
          · rw [dT (by omega), if_pos hl]; rfl
          · rw [dF (by omega), if_neg hl, hz]; rfl
        · rw [dF hz, if_neg hz]; rfl
      rw [ho, bS]
      have main : ∃ acc, loopN (f_law02_HullTables_L2 (2 ^ 70) x0 x1 x2) (2 ^ 70) ((if bothE x0 x2 = 0 then (if 100 < x1.length then 8 else 0) else bothE x0 x2), [], 0) = some (tabE x0 x1 x2, acc) ∧ (tabE x0 x1 x2 = 0 → acc = hyL x0 x1 x2 x1.length) := by
        unfold tabE
        by_cases hz : bothE x0 x2 = 0
        · rw [if_pos hz, if_pos hz]
          by_cases hl : 100 < x1.length
          · rw [if_pos hl, if_pos hl]
            exact ⟨[], ref_stop (i := 0) (by omega) (by omega), fun h => by cases h⟩
          · rw [if_neg hl, if_neg hl]
            obtain ⟨hs, hd⟩ := both_ok hz
            have hf := Fits.of ht hs
            have hd := dens_ok hd
            exact ref_loop hf hd h1 hn hN x1.length 0 (by omega) (fun j hj => by omega) (2 ^ 70) (by omega)
        · rw [if_neg hz, if_neg hz]
          exact ⟨[], ref_stop (i := 0) hz (by omega), fun h => absurd h hz⟩
      obtain ⟨acc, e1, e2⟩ := main
      rw [e1, bS, cmp_neq]
      by_cases hz : tabE x0 x1 x2 = 0
      · have hs : bothE x0 x2 = 0 := by
          unfold tabE at hz
          split at hz
          · rename_i h; exact h
          · rename_i h; exact absurd hz h
        obtain ⟨hs, hd⟩ := both_ok hs
        have hf := Fits.of ht hs
        have hd := dens_ok hd
        rw [dT hz, if_pos hz, e2 hz, Bool.not_true, cond_false]
        simp only [cmp_neq, decide_true, Bool.not_true, Bool.or_self, cond_false]
        have := loop_err (f := f_law02_HullTables_L1 (2 ^ 70) (hyL x0 x1 x2 x1.length, 0) (tabE x0 x1 x2, hyL x0 x1 x2 x1.length)) (e := fun _ => 0) (n := x1.length) (N := 2 ^ 70) (fin := Sum.inl ()) (err := fun z => Sum.inr false) (fun i hi _ => by
          have hb := gL64 h1 hi
          have h0 : Qf 64 (R ((x1[i]! : Int) : Rat)) ((x1[i]! : Int) : Rat) := Qf.R (Sz.i64 (by omega) (by omega))
          have hlh : LenH (hyT x0 x1 x2 i) := hydro_len (K := 2 * 64 + 98) (by omega) (hf.y32 (a := ⟨R ((x1[i]! : Int) : Rat), zeroR⟩) h0 Qf.zero) hf (by omega) (by omega)
          unfold f_law02_HullTables_L1
          simp only [cmp_lss]
          rw [hyL_len, dT (by omega), cond_true, idxB (by rw [hyL_len]; exact hi), bS, bS, hyL_get hi, sameH_refl hlh hN, bS, w64s (by omega)]; rfl) (fun _ => by
          unfold f_law02_HullTables_L1
          simp only [cmp_lss]
          rw [hyL_len, dF (by omega)]; rfl) (by omega)
        rw [firstErr_nil] at this
        rw [this]; rfl
      · rw [dF hz, if_neg hz]
        simp
end Go.KB
