/- Plain laws: the levels of a ship, ascending, each once: that the program and the reference find the same. No condition. -/
import Derived.Test.YtbedbjphickpaaaGreatPPut
import Derived.Test.YtbedbjphickpaaaGreatKSor
namespace Go.KB
set_option linter.unusedVariables false
set_option maxRecDepth 100000

/- compact of an ascending list -/
theorem comp_mem {zs : List Int} (hs : zs.Pairwise (· ≤ ·)) {x : Int} : x ∈ Lib.compact zs ↔ x ∈ zs := by
  unfold Lib.compact Lib.compactUpTo
  rw [List.mem_map]
  constructor
  · rintro ⟨j, hj, rfl⟩
    rw [List.mem_filter, List.mem_range] at hj
    simp [hj.1]
  · intro hx
    have key : ∀ j, ∀ h : j < zs.length, ∃ i, i ≤ j ∧ zs.toArray[i]! = zs[j] ∧ Lib.keeps zs.toArray i = true := by
      intro j
      induction j with
      | zero => intro h; exact ⟨0, Nat.le_refl _, by simp [h], by simp [Lib.keeps]⟩
      | succ j ih =>
        intro h
        by_cases he : zs[j + 1] = zs[j]
        · obtain ⟨i, h1, h2, h3⟩ := ih (by omega)
          exact ⟨i, by omega, by rw [he]; exact h2, h3⟩
        · refine ⟨j + 1, Nat.le_refl _, by simp [h], ?_⟩
          unfold Lib.keeps
          rw [decide_eq_true_eq]
          right
          simp [h, show j < zs.length by omega]
          exact he
    obtain ⟨j, hj, rfl⟩ := List.getElem_of_mem hx
    obtain ⟨i, h1, h2, h3⟩ := key j hj
    exact ⟨i, by rw [List.mem_filter, List.mem_range]; exact ⟨by omega, h3⟩, h2⟩
theorem comp_asc {zs : List Int} (hs : zs.Pairwise (· ≤ ·)) : (Lib.compact zs).Pairwise (· < ·) := by
  unfold Lib.compact Lib.compactUpTo
  rw [List.pairwise_map]
  have h0 : (List.range zs.length).Pairwise (· < ·) := List.pairwise_lt_range
  refine ((h0.filter _).imp_of_mem ?_)
  intro i j hi hj hij
  rw [List.mem_filter, List.mem_range] at hi hj
  have hk : zs.toArray[j]! ≠ zs.toArray[j - 1]! := by
    have := hj.2
    unfold Lib.keeps at this
    rw [decide_eq_true_eq] at this
    rcases this with h | h
    · omega
    · exact h
  have e1 : zs.toArray[i]! = zs[i]'hi.1 := by simp [hi.1]
  have e2 : zs.toArray[j]! = zs[j]'hj.1 := by simp [hj.1]
  have e3 : zs.toArray[j - 1]! = zs[j - 1]'(by omega) := by simp [show j - 1 < zs.length by omega]
  rw [e2, e3] at hk
  rw [e1, e2]
  have a1 : zs[j - 1]'(by omega) ≤ zs[j]'hj.1 := List.pairwise_iff_getElem.1 hs (j - 1) j (by omega) hj.1 (by omega)
  have a2 : zs[i]'hi.1 ≤ zs[j - 1]'(by omega) := by
    by_cases h : i = j - 1
    · subst h; exact Int.le_refl _
    · exact List.pairwise_iff_getElem.1 hs i (j - 1) hi.1 (by omega) (by omega)
  omega
def allLv (s : GShip) : List Int := s.Stations.flatMap (·.Levels)
def hts (s : GShip) : List Int := Lib.compact (isort (allLv s))
theorem hts_mem {s : GShip} {x : Int} : x ∈ hts s ↔ x ∈ allLv s := by
  unfold hts
  rw [comp_mem (isort_sorted _)]
  exact (isort_perm _).mem_iff
theorem hts_asc {s : GShip} : (hts s).Pairwise (· < ·) := comp_asc (isort_sorted _)
theorem flat_take {s : GShip} {i : Nat} (hi : i < s.Stations.length) : (s.Stations.take (i + 1)).flatMap (·.Levels) = (s.Stations.take i).flatMap (·.Levels) ++ s.Stations[i]!.Levels := by
  rw [List.take_succ_eq_append_getElem hi, List.flatMap_append, bang hi]; simp
section
variable {s : GShip} (hf : Fits s)
include hf
theorem flat_len : ∀ i, i ≤ s.Stations.length → ((s.Stations.take i).flatMap (·.Levels)).length ≤ 8 * i := by
  intro i
  induction i with
  | zero => intro _; simp
  | succ i ih =>
    intro hi
    have := ih (by omega)
    have := hf.n8 i (by omega)
    rw [flat_take (by omega), List.length_append]; omega
theorem allLv_len : 1 ≤ (allLv s).length ∧ (allLv s).length ≤ 48 := by
  have h1 := flat_len hf s.Stations.length (Nat.le_refl _)
  rw [List.take_length] at h1
  have h6 := hf.n6
  have h0 := hf.n1
  refine ⟨?_, by unfold allLv; omega⟩
  have hx : s.Stations[0]!.Levels[0]! ∈ allLv s := by
    unfold allLv
    rw [List.mem_flatMap]
    have h2 := (hf.fit 0 (by omega)).n2
    exact ⟨s.Stations[0]!, by rw [bang (by omega)]; exact List.getElem_mem _, by rw [bang (l := s.Stations[0]!.Levels) (by omega)]; exact List.getElem_mem _⟩
  cases h : allLv s with
  | nil => rw [h] at hx; cases hx
  | cons a l => simp
omit hf in
theorem allLv_iff {x : Int} : x ∈ allLv s ↔ ∃ k, k < s.Stations.length ∧ ∃ j, j < s.Stations[k]!.Levels.length ∧ s.Stations[k]!.Levels[j]! = x := by
  unfold allLv
  rw [List.mem_flatMap]
  constructor
  · rintro ⟨t, ht, hx⟩
    obtain ⟨k, hk, rfl⟩ := List.getElem_of_mem ht
    obtain ⟨j, hj, rfl⟩ := List.getElem_of_mem hx
    exact ⟨k, hk, j, by rw [bang hk]; exact hj, by rw [bang (by rw [bang hk]; exact hj)]; simp [hk]⟩
  · rintro ⟨k, hk, j, hj, rfl⟩
    exact ⟨s.Stations[k]!, by rw [bang hk]; exact List.getElem_mem _, by rw [bang hj]; exact List.getElem_mem _⟩
theorem heights_eq {N : Nat} (hN : 2 ^ 64 ≤ N) : f_hull_heights N s = some (hts s) := by
  have h6 := hf.n6
  obtain ⟨l1, l2⟩ := allLv_len hf
  unfold f_hull_heights
  have := loop_errG (f := f_hull_heights_L1 N s) (e := fun _ => 0) (N := N) (n := s.Stations.length) (fin := allLv s) (err := fun _ => allLv s) (fun i => ((s.Stations.take i).flatMap (·.Levels), (i : Int))) (fun i hi _ => by
    have := flat_len hf i (by omega)
    have := hf.n8 i hi
    unfold f_hull_heights_L1
    simp only [cmp_lss]
    rw [dT (by omega), cond_true, idxB hi, bS, app_ok (by unfold lim; omega), bS, w64s (by omega), flat_take hi]; rfl) (fun _ => by
    unfold f_hull_heights_L1
    simp only [cmp_lss]
    rw [dF (by omega), List.take_length]; rfl) (by omega)
  rw [firstErr_nil] at this
  rw [show loopN (f_hull_heights_L1 N s) N ([], 0) = _ from this]
  unfold errOr
  rw [if_pos rfl, bS]
  unfold f_slices_Sortlint_int sortI
  rw [show (Nat.ble 1 (allLv s).length && Nat.ble (allLv s).length 1000000) = true by rw [Bool.and_eq_true, Nat.ble_eq, Nat.ble_eq]; omega, cond_true, bS]
  unfold f_slices_Compactlint_int compI
  have := (isort_perm (allLv s)).length_eq
  rw [show (Nat.ble 1 (isort (allLv s)).length && Nat.ble (isort (allLv s)).length 1000000) = true by rw [Bool.and_eq_true, Nat.ble_eq, Nat.ble_eq]; omega, cond_true]; rfl
/- the reference's -/
def putAll (l : List Int) (acc : List Int) : List Int := l.foldl (fun a x => putL x a) acc
omit hf in
theorem putAll_mem : ∀ {l acc : List Int} {z : Int}, z ∈ putAll l acc ↔ z ∈ l ∨ z ∈ acc := by
  intro l
  induction l with
  | nil => intro acc z; simp [putAll]
  | cons x l ih =>
    intro acc z
    rw [show putAll (x :: l) acc = putAll l (putL x acc) from rfl, ih, putL_mem, List.mem_cons]
    constructor
    · rintro (h | h | h) <;> simp [h]
    · rintro ((h | h) | h) <;> simp [h]
omit hf in
theorem putAll_asc : ∀ {l acc : List Int}, acc.Pairwise (· < ·) → (putAll l acc).Pairwise (· < ·) := by
  intro l
  induction l with
  | nil => intro acc h; exact h
  | cons x l ih => intro acc h; exact ih (putL_asc h)
omit hf in
theorem putAll_len : ∀ {l acc : List Int}, (putAll l acc).length ≤ acc.length + l.length := by
  intro l
  induction l with
  | nil => intro acc; simp [putAll]
  | cons x l ih =>
    intro acc
    have h1 := @ih (putL x acc)
    have h2 := putL_len (x := x) (l := acc)
    rw [show putAll (x :: l) acc = putAll l (putL x acc) from rfl, List.length_cons]; omega
omit hf in
theorem putAll_app {l m acc : List Int} : putAll (l ++ m) acc = putAll m (putAll l acc) := by simp [putAll]
theorem rlev_loop {N : Nat} (hN : 2 ^ 64 ≤ N) : loopN (f_ref02_Draught_L3 N s) N ([], 0) = some (hts s) := by
  have h6 := hf.n6
  have := loop_errG (f := f_ref02_Draught_L3 N s) (e := fun _ => 0) (N := N) (n := s.Stations.length) (fin := putAll (allLv s) []) (err := fun _ => putAll (allLv s) []) (fun i => (putAll ((s.Stations.take i).flatMap (·.Levels)) [], (i : Int))) (fun i hi _ => by
    have hl := flat_len hf i (by omega)
    have h8 := hf.n8 i hi
    have hp := putAll_len (l := (s.Stations.take i).flatMap (·.Levels)) (acc := [])
    generalize he : putAll ((s.Stations.take i).flatMap (·.Levels)) [] = acc at hp
    have inner := loop_errG (f := f_ref02_Draught_L1 N s (acc, (i : Int))) (e := fun _ => 0) (N := N) (n := s.Stations[i]!.Levels.length) (fin := putAll s.Stations[i]!.Levels acc) (err := fun _ => putAll s.Stations[i]!.Levels acc) (fun j => (putAll (s.Stations[i]!.Levels.take j) acc, (j : Int))) (fun j hj _ => by
      have hq := putAll_len (l := s.Stations[i]!.Levels.take j) (acc := acc)
      rw [List.length_take] at hq
      rw [List.length_nil] at hp
      have hmin : min j s.Stations[i]!.Levels.length ≤ 8 := by omega
      unfold f_ref02_Draught_L1
      simp only [cmp_lss]
      rw [idxB hi, bS, dT (by omega), cond_true, bS, idxB hj, bS, rput_eq (by omega) hN, bS, w64s (by omega), List.take_succ_eq_append_getElem hj, putAll_app, bang hj]; rfl) (fun _ => by
      unfold f_ref02_Draught_L1
      simp only [cmp_lss]
      rw [idxB hi, bS, dF (by omega), List.take_length]; rfl) (by omega)
    rw [firstErr_nil] at inner
    unfold f_ref02_Draught_L3
    simp only [cmp_lss]
    rw [dT (by omega), cond_true, show loopN (f_ref02_Draught_L1 N s (acc, (i : Int))) N (acc, 0) = _ from inner]
    unfold errOr
    rw [if_pos rfl, bS, w64s (by omega), flat_take hi, putAll_app, he]; rfl) (fun _ => by
    unfold f_ref02_Draught_L3
    simp only [cmp_lss]
    rw [dF (by omega), List.take_length]; rfl) (by omega)
  rw [firstErr_nil] at this
  rw [show loopN (f_ref02_Draught_L3 N s) N ([], 0) = _ from this]
  unfold errOr
  rw [if_pos rfl, asc_ext (putAll_asc (l := allLv s) (acc := []) List.Pairwise.nil) hts_asc fun z => ?_]
  rw [putAll_mem, hts_mem]; simp
end
end Go.KB
