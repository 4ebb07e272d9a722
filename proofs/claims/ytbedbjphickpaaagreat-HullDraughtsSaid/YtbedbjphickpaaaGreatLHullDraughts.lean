/- The plain law of HullDraughts: it returns true for every ship, mass and density. No condition. -/
import Derived.Test.YtbedbjphickpaaaGreatPLev
import Derived.Test.YtbedbjphickpaaaGreatPRis
import Derived.Test.YtbedbjphickpaaaGreatPZg
namespace Go.KB
set_option linter.unusedVariables false
set_option maxRecDepth 100000

theorem yT0 {s : GShip} {y : Rat} {i : Nat} : yT s y 0 i = y := by unfold yT ySet; grind
theorem sumQ_cast {f : Nat → Int} : ∀ {n : Nat}, sumQ (fun k => ((f k : Int) : Rat)) n = ((sumI f n : Int) : Rat) := by
  intro n
  induction n with
  | zero => rfl
  | succ n ih => rw [sumQ, sumI, ih, Rat.intCast_add]
/- volumes at whole heights are whole -/
def partI (t : GStation) (h : Int) (k : Nat) : Int := if h ≤ t.Levels[k]! then 0 else (if h < t.Levels[k + 1]! then h else t.Levels[k + 1]!) - t.Levels[k]!
theorem part_cast {t : GStation} {h : Int} {k : Nat} : partQ t (h : Rat) k = ((partI t h k : Int) : Rat) := by
  unfold partQ partI topQ lvQ
  by_cases h1 : h ≤ t.Levels[k]!
  · rw [if_pos h1, if_pos (by exact_mod_cast h1)]; rfl
  · rw [if_neg h1, if_neg (by exact_mod_cast h1)]
    by_cases h2 : h < t.Levels[k + 1]!
    · rw [if_pos h2, if_pos (by exact_mod_cast h2), Rat.intCast_sub]
    · rw [if_neg h2, if_neg (by exact_mod_cast h2), Rat.intCast_sub]
theorem partI_bd {t : GStation} (hf : Fit t) {h : Int} {k : Nat} (hk : k < t.Halves.length) : 0 ≤ partI t h k ∧ partI t h k ≤ 100000 := by
  have hn := hf.nh
  have h1 := hf.l0 k (by omega)
  have h2 := hf.l0 (k + 1) (by omega)
  have h3 := hf.la (k + 1) (by omega) (by omega)
  rw [Nat.add_sub_cancel] at h3
  unfold partI
  split
  · omega
  · split <;> omega
def arI (t : GStation) (h : Int) : Int := sumI (fun k => 2 * t.Halves[k]! * partI t h k) t.Halves.length
theorem ar_cast {t : GStation} {h : Int} : areaQ t (h : Rat) = ((arI t h : Int) : Rat) := by
  unfold areaQ arI
  rw [← sumQ_cast]
  refine sumQ_congr fun k hk => ?_
  unfold arT
  rw [part_cast, ← Rat.intCast_mul]
theorem arI_bd {t : GStation} (hf : Fit t) (h8 : t.Levels.length ≤ 8) {h : Int} : 0 ≤ arI t h ∧ arI t h ≤ 140000000000 := by
  have hn := hf.nh
  have := sumI_bd (f := fun k => 2 * t.Halves[k]! * partI t h k) (b := 20000000000) (n := t.Halves.length) (fun k hk => by
    have h1 := hf.hb k hk
    have h2 := partI_bd hf (h := h) hk
    have h3 := mulB (a := 2 * t.Halves[k]!) (b := partI t h k) (A := 200000) (B := 100000) (by omega) (by omega)
    have h4 := Int.mul_nonneg (show 0 ≤ 2 * t.Halves[k]! by omega) h2.1
    omega)
  unfold arI
  omega
def vI (s : GShip) (h : Int) : Int := sumI (fun i => s.Stations[i]!.Width * arI s.Stations[i]! h) s.Stations.length
theorem v_cast {s : GShip} {h : Int} : vQ s (h : Rat) 0 = ((vI s h : Int) : Rat) := by
  unfold vQ vI
  rw [← sumQ_cast]
  refine sumQ_congr fun k hk => ?_
  unfold tV aT wT
  rw [yT0, ar_cast, Rat.intCast_mul]
theorem vI_bd {s : GShip} (hf : Fits s) {h : Int} : 0 ≤ vI s h ∧ vI s h ≤ 84000000000000000 := by
  have := sumI_bd (f := fun i => s.Stations[i]!.Width * arI s.Stations[i]! h) (b := 14000000000000000) (n := s.Stations.length) (fun k hk => by
    have h1 := hf.fit k hk
    have w0 := h1.w0; have w1 := h1.w1
    have h2 := arI_bd h1 (hf.n8 k hk) (h := h)
    have h3 := mulB (a := s.Stations[k]!.Width) (b := arI s.Stations[k]! h) (A := 100000) (B := 140000000000) (by omega) (by omega)
    have h4 := Int.mul_nonneg (show 0 ≤ s.Stations[k]!.Width by omega) h2.1
    omega)
  have := hf.n6
  unfold vI
  omega
/- what is displaced -/
def dsQ (s : GShip) (d : Int) (y : Rat) : Rat := kgQ (vQ s y 0) d
theorem dsSz {s : GShip} (hf : Fits s) {d h : Int} (hd : 900 ≤ d ∧ d ≤ 1100) : Sz 192 (dsQ s d (h : Rat)) := by
  unfold dsQ kgQ
  rw [v_cast]
  have := vI_bd hf (h := h)
  exact (((Sz.i64 (by omega) (by omega)).mul (Sz.i64 (by omega) (by omega))).div (Sz.i64 (z := 1000000000) (by omega) (by omega))).mono (by omega)
theorem kg_le {d : Int} (hd : 900 ≤ d) {p q : Rat} (h : p ≤ q) : kgQ p d ≤ kgQ q d := by
  unfold kgQ
  have h2 : (0 : Rat) ≤ (d : Rat) := by exact_mod_cast (show 0 ≤ d by omega)
  have h3 : (0 : Rat) ≤ (((1000000000 : Int) : Rat))⁻¹ := by decide +kernel
  have e : ∀ x : Rat, x * (d : Rat) / ((1000000000 : Int) : Rat) = x * ((d : Rat) * (((1000000000 : Int) : Rat))⁻¹) := fun x => by rw [Rat.div_def, Rat.mul_assoc]
  rw [e, e]
  exact Rat.mul_le_mul_of_nonneg_right h (Rat.mul_nonneg h2 h3)
theorem ds_mono {s : GShip} (hf : Fits s) {d : Int} (hd : 900 ≤ d) {y z : Rat} (h : y ≤ z) : dsQ s d y ≤ dsQ s d z := by
  have := vQ_mono (s := s) (p := y) (q := 0) (r := z - y) hf (by grind)
  rw [show y + (z - y) = z by grind] at this
  exact kg_le hd this
/- the list of heights -/
section
variable {s : GShip} (hf : Fits s)
include hf
theorem hts_pos : 1 ≤ (hts s).length ∧ (hts s).length ≤ 48 := by
  obtain ⟨l1, l2⟩ := allLv_len hf
  have h1 : (hts s).length ≤ (isort (allLv s)).length := by
    unfold hts Lib.compact Lib.compactUpTo
    rw [List.length_map]
    exact Nat.le_trans (List.length_filter_le _ _) (by simp)
  rw [(isort_perm _).length_eq] at h1
  refine ⟨?_, by omega⟩
  cases h : allLv s with
  | nil => rw [h] at l1; simp at l1
  | cons x l =>
    have hx : x ∈ hts s := hts_mem.2 (by rw [h]; exact List.mem_cons_self)
    cases h2 : hts s with
    | nil => rw [h2] at hx; cases hx
    | cons a m => simp
omit hf in
theorem hts_lt {a b : Nat} (hb : b < (hts s).length) (h : a < b) : (hts s)[a]! < (hts s)[b]! := by
  rw [bang (by omega), bang hb]
  exact List.pairwise_iff_getElem.1 hts_asc a b (by omega) hb h
theorem hts_bd {a : Nat} (ha : a < (hts s).length) : 0 ≤ (hts s)[a]! ∧ (hts s)[a]! ≤ 100000 := by
  have : (hts s)[a]! ∈ hts s := by rw [bang ha]; exact List.getElem_mem ha
  rw [hts_mem, allLv_iff] at this
  obtain ⟨k, hk, j, hj, e⟩ := this
  have := (hf.fit k hk).l0 j hj
  omega
omit hf in
theorem level_at {k j : Nat} (hk : k < s.Stations.length) (hj : j < s.Stations[k]!.Levels.length) : ∃ a, a < (hts s).length ∧ (hts s)[a]! = s.Stations[k]!.Levels[j]! := by
  have : s.Stations[k]!.Levels[j]! ∈ hts s := hts_mem.2 (allLv_iff.2 ⟨k, hk, j, hj, rfl⟩)
  obtain ⟨a, ha, e⟩ := List.getElem_of_mem this
  exact ⟨a, ha, by rw [bang ha]; exact e⟩
theorem ds_first {d : Int} : dsQ s d (((hts s)[0]! : Int) : Rat) = 0 := by
  have hp := hts_pos hf
  have : vQ s (((hts s)[0]! : Int) : Rat) 0 = 0 := by
    unfold vQ
    rw [sumQ_const (i := 0) (by omega) (fun k _ hk => ?_)]; rfl
    unfold tV aT
    rw [yT0]
    have : areaQ s.Stations[k]! (((hts s)[0]! : Int) : Rat) = 0 := by
      unfold areaQ
      rw [sumQ_const (i := 0) (by omega) (fun j _ hj => ?_)]; rfl
      have hn := (hf.fit k hk).nh
      obtain ⟨a, ha, e⟩ := level_at hk (j := j) (by omega)
      refine arT_dry ?_
      have : (hts s)[0]! ≤ s.Stations[k]!.Levels[j]! := by
        rw [← e]
        by_cases h0 : a = 0
        · subst h0; exact Int.le_refl _
        · have := hts_lt (s := s) (a := 0) (b := a) ha (by omega); omega
      exact_mod_cast this
    rw [this]; grind
  unfold dsQ kgQ
  rw [this]; simp [Rat.div_def]
/- between two neighbouring heights the displacement is a straight line -/
def gradQ (s : GShip) (d : Int) (h : Int) : Rat := wpQ s (h : Rat) 0 * (d : Rat) / ((1000000000 : Int) : Rat)
theorem ds_line {d : Int} {i : Nat} (hi : i + 1 < (hts s).length) {r : Rat} (h0 : 0 ≤ r) (h1 : r ≤ (((hts s)[i + 1]! : Int) : Rat) - (((hts s)[i]! : Int) : Rat)) :
    dsQ s d ((((hts s)[i]! : Int) : Rat) + r) = dsQ s d (((hts s)[i]! : Int) : Rat) + gradQ s d (hts s)[i]! * r := by
  have := (vQ_rise (s := s) (p := (((hts s)[i]! : Int) : Rat)) (q := 0) (r := r) hf h0 (fun k hk j hj => by
    rw [yT0]
    rintro ⟨a1, a2⟩
    obtain ⟨a, ha, e⟩ := level_at hk hj
    have b1 : (hts s)[i]! < (hts s)[a]! := by rw [e]; exact_mod_cast a1
    have b2 : (hts s)[a]! < (hts s)[i + 1]! := by
      rw [e]
      have : lvQ s.Stations[k]! j < (((hts s)[i + 1]! : Int) : Rat) := by grind
      exact_mod_cast this
    have c1 : i < a := by
      rcases Nat.lt_or_ge i a with h | h
      · exact h
      · rcases Nat.eq_or_lt_of_le h with rfl | h
        · omega
        · have := hts_lt (s := s) (a := a) (b := i) (by omega) h; omega
    have c2 : a < i + 1 := by
      rcases Nat.lt_or_ge a (i + 1) with h | h
      · exact h
      · rcases Nat.eq_or_lt_of_le h with h | h
        · rw [← h] at b2; omega
        · have := hts_lt (s := s) (a := i + 1) (b := a) ha h; omega
    omega)).1
  unfold dsQ kgQ gradQ
  rw [this]; grind
end
/- the step of the search -/
def stepE (s : GShip) (m d : Int) (i : Nat) : Int := if dsQ s d (((hts s)[i]! : Int) : Rat) < (m : Rat) then 0 else ((i + 1 : Nat) : Int)
def valQ (s : GShip) (m d : Int) (i : Nat) : Rat := (((hts s)[i - 1]! : Int) : Rat) + ((m : Rat) - dsQ s d (((hts s)[i - 1]! : Int) : Rat)) / (dsQ s d (((hts s)[i]! : Int) : Rat) - dsQ s d (((hts s)[i - 1]! : Int) : Rat)) * (((hts s)[i]! - (hts s)[i - 1]! : Int) : Rat)
theorem firstErr_ex {e : Nat → Int} : ∀ {k i : Nat}, firstErr e k i ≠ 0 → ∃ j, i ≤ j ∧ j < i + k ∧ firstErr e k i = e j ∧ e j ≠ 0 ∧ ∀ m, i ≤ m → m < j → e m = 0 := by
  intro k
  induction k with
  | zero => intro i h; exact absurd rfl h
  | succ k ih =>
    intro i h
    rw [firstErr] at h ⊢
    by_cases h0 : e i = 0
    · rw [if_pos h0] at h ⊢
      obtain ⟨j, h1, h2, h3, h4, h5⟩ := ih h
      refine ⟨j, by omega, by omega, h3, h4, fun m hm1 hm2 => ?_⟩
      rcases Nat.eq_or_lt_of_le hm1 with rfl | hm1
      · exact h0
      · exact h5 m hm1 hm2
    · rw [if_neg h0]
      exact ⟨i, Nat.le_refl _, by omega, rfl, h0, fun m h1 h2 => by omega⟩
theorem firstErr_shift {e : Nat → Int} : ∀ {k i : Nat}, firstErr (fun j => e (j + 1)) k i = firstErr e k (i + 1) := by
  intro k
  induction k with
  | zero => intro i; rfl
  | succ k ih => intro i; rw [firstErr, firstErr, ih]
section
variable {N : Nat} {s : GShip} {m d : Int} (hf : Fits s) (hd : 900 ≤ d ∧ d ≤ 1100) (hm : 1 ≤ m ∧ m ≤ 1000000000) (hN : 2 ^ 64 ≤ N)
include hf hd hN
theorem carried_eq {y : Int} (hy : 0 ≤ y ∧ y ≤ 100000) : f_hull_Draught_1 N y s d = some (R (dsQ s d (y : Rat))) := by
  have h6 := hf.n6
  have zy : Sz 64 (y : Rat) := Sz.i64 (by omega) (by omega)
  have hyt : ∀ i, i < s.Stations.length → Sz 64 (yT s (y : Rat) 0 i) := fun i _ => by rw [yT0]; exact zy
  have sv : Sz 55000 (vQ s (y : Rat) 0) := hf.szV (K := 64) (by omega) hyt (Nat.le_refl _)
  unfold f_hull_Draught_1
  rw [whole_eq (by omega) (by omega) hN, bS]
  have := loopN_fold (f := f_hull_Draught_1_L1 N y s) s.Stations.length (fun i => R (sumQ (tV s (y : Rat) 0) i)) (R (vQ s (y : Rat) 0)) (fun i hi => by
    have hfi := hf.fit i hi
    have w0 := hfi.w0; have w1 := hfi.w1
    have za := hf.aSz (K := 64) (by omega) hyt hi
    have ea : areaQ s.Stations[i]! (y : Rat) = aT s (y : Rat) 0 i := by unfold aT; rw [yT0]
    unfold f_hull_Draught_1_L1
    simp only [cmp_lss]
    rw [dT (by omega), cond_true, idxB hi, bS, whole_eq (by omega) (by omega) hN, bS, whole_eq (by omega) (by omega) hN, bS, immersed_eq hfi zy (by omega) hN, bS]
    dsimp only
    rw [ea, show ((s.Stations[i]!.Width : Int) : Rat) = wT s i from rfl, times2 (Qf.R (hf.wSz hi)) (Qf.R za) (hf.wSz hi) za (by omega) hN, bS, show wT s i * aT s (y : Rat) 0 i = tV s (y : Rat) 0 i from rfl,
      AddRat_eq (Qf.R (hf.szV (K := 64) (by omega) hyt (by omega))) (Qf.R (hf.vSz (K := 64) (by omega) hyt hi)) (by omega) hN, bS, w64s (by omega)]; rfl) (by
    unfold f_hull_Draught_1_L1
    simp only [cmp_lss]
    rw [dF (by omega)]; rfl) N (by omega)
  rw [show loopN (f_hull_Draught_1_L1 N y s) N (R ((0 : Int) : Rat), 0) = _ from this, bS, mass_eq (Qf.R sv) sv (by omega) (by omega) (by omega) hN]
  rfl
theorem rdisp_eq {y : Int} (hy : 0 ≤ y ∧ y ≤ 100000) : f_ref02_displaced N s y d = some (R (dsQ s d (y : Rat))) := by
  have zy : Sz 64 (y : Rat) := Sz.i64 (by omega) (by omega)
  have hyt : ∀ i, i < s.Stations.length → Sz 64 (yT s (y : Rat) 0 i) := fun i _ => by rw [yT0]; exact zy
  have sv : Sz 55000 (vQ s (y : Rat) 0) := hf.szV (K := 64) (by omega) hyt (Nat.le_refl _)
  have z0 : Qf 64 (R ((0 : Int) : Rat)) 0 := Qf.R (Sz.zero.mono (by omega))
  unfold f_ref02_displaced f_ref02_Level
  rw [W_R (by omega) (by omega) hN, bS, W_R (by omega) (by omega) hN, bS, bS, rVol_eq (K := 64) (k := 64) (by omega) hyt hf (a := ⟨R (y : Rat), R ((0 : Int) : Rat)⟩) (Qf.R zy) z0 (by omega) hN, bS,
    rMass_eq (Qf.R sv) sv (by omega) (by omega) (by omega) hN]
  rfl
include hm
omit hN hd in
theorem e0_zero : stepE s m d 0 = 0 := by
  unfold stepE
  rw [ds_first hf, if_pos (by exact_mod_cast (show (0 : Int) < m by omega))]
omit hN hf hd hm in
theorem gap_ne {i : Nat} (hi : i + 1 < (hts s).length) (h1 : dsQ s d (((hts s)[i]! : Int) : Rat) < (m : Rat)) (h2 : ¬dsQ s d (((hts s)[i + 1]! : Int) : Rat) < (m : Rat)) : dsQ s d (((hts s)[i + 1]! : Int) : Rat) - dsQ s d (((hts s)[i]! : Int) : Rat) ≠ 0 := by grind
omit hN hm in
theorem val_sz {i : Nat} (hi : i < (hts s).length) (h1 : 1 ≤ i) (hm' : 0 ≤ m ∧ m ≤ 1000000000) : Sz 800 (valQ s m d i) := by
  have b1 := hts_bd hf hi; have b2 := hts_bd hf (a := i - 1) (by omega)
  have zm : Sz 64 (m : Rat) := Sz.i64 (by omega) (by omega)
  have z1 : Sz 64 (((hts s)[i - 1]! : Int) : Rat) := Sz.i64 (by omega) (by omega)
  have z2 : Sz 64 (((hts s)[i]! - (hts s)[i - 1]! : Int) : Rat) := Sz.i64 (by omega) (by omega)
  exact (z1.add (((zm.sub (dsSz hf hd)).div ((dsSz hf hd).sub (dsSz hf hd))).mul z2)).mono (by omega)
theorem prog_loop {Z : GRat} : loopN (f_hull_Draught_L1 N s d (R (m : Rat)) (hts s)) N (Z, 0, R ((0 : Int) : Rat), 0) = some (errOr (Sum.inl Z) (fun z => Sum.inr (R (valQ s m d (z.toNat - 1)), 0)) (firstErr (stepE s m d) (hts s).length 0)) := by
  obtain ⟨hp1, hp2⟩ := hts_pos hf
  have zm : Sz 64 (m : Rat) := Sz.i64 (by omega) (by omega)
  refine loop_errG (f := f_hull_Draught_L1 N s d (R (m : Rat)) (hts s)) (e := stepE s m d) (N := N) (n := (hts s).length) (fin := Sum.inl Z) (err := fun z => Sum.inr (R (valQ s m d (z.toNat - 1)), 0)) (fun i => (Z, (if i = 0 then 0 else (hts s)[i - 1]!), (if i = 0 then R ((0 : Int) : Rat) else R (dsQ s d (((hts s)[i - 1]! : Int) : Rat))), (i : Int))) (fun i hi hz => ?_) (fun _ => ?_) (by omega)
  · have b1 := hts_bd hf hi
    unfold f_hull_Draught_L1
    simp only [cmp_lss]
    rw [dT (by omega), cond_true, idxB hi, bS, carried_eq hf hd hN b1, bS, CmpRat_eq (Qf.R (dsSz hf hd)) (Qf.R zm) (by omega) hN, bS, cmpQ_lt, w64s (by omega)]
    by_cases hc : dsQ s d (((hts s)[i]! : Int) : Rat) < (m : Rat)
    · have he : stepE s m d i = 0 := by unfold stepE; rw [if_pos hc]
      rw [dT hc, cond_true, he, if_pos rfl, if_neg (by omega), if_neg (by omega), Nat.add_sub_cancel]
    · have he : stepE s m d i = ((i + 1 : Nat) : Int) := by unfold stepE; rw [if_neg hc]
      have hi0 : i ≠ 0 := fun h => by
        subst h
        have := e0_zero (d := d) hf hm
        rw [he] at this; cases this
      obtain ⟨j, rfl⟩ : ∃ j, i = j + 1 := ⟨i - 1, by omega⟩
      have hc0 : dsQ s d (((hts s)[j]! : Int) : Rat) < (m : Rat) := by
        have := hz j (by omega)
        unfold stepE at this
        split at this
        · rename_i h; exact h
        · omega
      have b2 := hts_bd hf (a := j) (by omega)
      have zl : Sz 64 (((hts s)[j]! : Int) : Rat) := Sz.i64 (by omega) (by omega)
      have zt : Sz 64 (((hts s)[j + 1]! - (hts s)[j]! : Int) : Rat) := Sz.i64 (by omega) (by omega)
      have za : Sz 256 ((m : Rat) - dsQ s d (((hts s)[j]! : Int) : Rat)) := zm.sub (dsSz hf hd)
      have zb : Sz 384 (dsQ s d (((hts s)[j + 1]! : Int) : Rat) - dsQ s d (((hts s)[j]! : Int) : Rat)) := (dsSz hf hd).sub (dsSz hf hd)
      rw [dF hc, cond_false, he, if_neg hi0, if_neg hi0, Nat.add_sub_cancel, if_neg (show ¬(((j + 1 + 1 : Nat) : Int) = 0) by omega), SubRat_eq (Qf.R zm) (Qf.R (dsSz hf hd)) (by omega) hN, bS, SubRat_eq (Qf.R (dsSz hf hd)) (Qf.R (dsSz hf hd)) (by omega) hN, bS, over_eq (Qf.R za) (Qf.R zb) (by omega) (gap_ne hi hc0 hc) hN, bS,
        whole_eq (by omega) (by omega) hN, bS, w64 (by omega) (by omega), whole_eq (by omega) (by omega) hN, bS, times2 (Qf.R (za.div zb)) (Qf.R zt) (za.div zb) zt (by omega) hN, bS, AddRat_eq (Qf.R zl) (Qf.R ((za.div zb).mul zt)) (by omega) hN, bS, Int.toNat_natCast, Nat.add_sub_cancel]
      rfl
  · unfold f_hull_Draught_L1
    simp only [cmp_lss]
    rw [dF (by omega)]; rfl
theorem ref_loop2 {Z : GRat} : loopN (f_ref02_Draught_L2 N s m d (hts s)) N (Z, R (dsQ s d (((hts s)[0]! : Int) : Rat)), 1) = some (errOr (Sum.inl Z) (fun z => Sum.inr (R (valQ s m d (z.toNat - 1)), true)) (firstErr (stepE s m d) (hts s).length 0)) := by
  obtain ⟨hp1, hp2⟩ := hts_pos hf
  have zm : Sz 64 (m : Rat) := Sz.i64 (by omega) (by omega)
  obtain ⟨n, hn⟩ : ∃ n, (hts s).length = n + 1 := ⟨(hts s).length - 1, by omega⟩
  rw [hn, firstErr_s0 (e0_zero hf hm), ← firstErr_shift]
  refine loop_errG (f := f_ref02_Draught_L2 N s m d (hts s)) (e := fun j => stepE s m d (j + 1)) (N := N) (n := n) (fin := Sum.inl Z) (err := fun z => Sum.inr (R (valQ s m d (z.toNat - 1)), true)) (fun i => (Z, R (dsQ s d (((hts s)[i]! : Int) : Rat)), ((i + 1 : Nat) : Int))) (fun j hj hz => ?_) (fun _ => ?_) (by omega)
  · have hi : j + 1 < (hts s).length := by omega
    have b1 := hts_bd hf hi
    have b2 := hts_bd hf (a := j) (by omega)
    unfold f_ref02_Draught_L2
    simp only [cmp_lss, cmp_geq]
    rw [dT (by omega), cond_true, idxB hi, bS, rdisp_eq hf hd hN b1, bS, W_R (by omega) (by omega) hN, bS, rCmpRat_eq (Qf.R (dsSz hf hd)) (Qf.R zm) (by omega) hN, bS, cmpQ_ge, w64s (by omega)]
    by_cases hc : dsQ s d (((hts s)[j + 1]! : Int) : Rat) < (m : Rat)
    · have he : stepE s m d (j + 1) = 0 := by unfold stepE; rw [if_pos hc]
      rw [dF (show ¬(m : Rat) ≤ dsQ s d (((hts s)[j + 1]! : Int) : Rat) by grind), cond_false, he, if_pos rfl]
    · have he : stepE s m d (j + 1) = ((j + 1 + 1 : Nat) : Int) := by unfold stepE; rw [if_neg hc]
      have hc0 : dsQ s d (((hts s)[j]! : Int) : Rat) < (m : Rat) := by
        by_cases h0 : j = 0
        · subst h0
          have := e0_zero (d := d) hf hm
          unfold stepE at this
          split at this
          · rename_i h; exact h
          · cases this
        · have := hz (j - 1) (by omega)
          rw [show j - 1 + 1 = j by omega] at this
          unfold stepE at this
          split at this
          · rename_i h; exact h
          · omega
      have zl : Sz 64 (((hts s)[j]! : Int) : Rat) := Sz.i64 (by omega) (by omega)
      have zt : Sz 64 (((hts s)[j + 1]! - (hts s)[j]! : Int) : Rat) := Sz.i64 (by omega) (by omega)
      have za : Sz 256 ((m : Rat) - dsQ s d (((hts s)[j]! : Int) : Rat)) := zm.sub (dsSz hf hd)
      have zb : Sz 384 (dsQ s d (((hts s)[j + 1]! : Int) : Rat) - dsQ s d (((hts s)[j]! : Int) : Rat)) := (dsSz hf hd).sub (dsSz hf hd)
      have ew : IntKind.i64.wrap (((j + 1 : Nat) : Int) - 1) = (j : Int) := by rw [w64 (by omega) (by omega)]; omega
      rw [dT (show (m : Rat) ≤ dsQ s d (((hts s)[j + 1]! : Int) : Rat) by grind), cond_true, he, if_neg (by omega), bS, rSubRat_eq (Qf.R zm) (Qf.R (dsSz hf hd)) (by omega) hN, bS, rSubRat_eq (Qf.R (dsSz hf hd)) (Qf.R (dsSz hf hd)) (by omega) hN, bS, rQuoRat_eq (Qf.R za) (Qf.R zb) (by omega) (gap_ne hi hc0 hc) hN, bS,
        ew, idxB (show j < (hts s).length by omega), bS, W_R (by omega) (by omega) hN, bS, bS, bS, w64 (by omega) (by omega), W_R (by omega) (by omega) hN, bS, rMulRat_eq (Qf.R (za.div zb)) (Qf.R zt) (by omega) hN, bS, rAddRat_eq (Qf.R zl) (Qf.R ((za.div zb).mul zt)) (by omega) hN, bS, Int.toNat_natCast, Nat.add_sub_cancel]
      unfold valQ
      rw [Nat.add_sub_cancel]
  · unfold f_ref02_Draught_L2
    simp only [cmp_lss]
    rw [dF (by omega)]; rfl
/- at the height that is found the displacement is the mass, a millimetre below it is less -/
omit hN hm in
theorem val_spec {i : Nat} (hi : i + 1 < (hts s).length) (h1 : dsQ s d (((hts s)[i]! : Int) : Rat) < (m : Rat)) (h2 : ¬dsQ s d (((hts s)[i + 1]! : Int) : Rat) < (m : Rat)) : dsQ s d (valQ s m d (i + 1)) = (m : Rat) ∧ dsQ s d (valQ s m d (i + 1) - 1) < (m : Rat) := by
  have hlt := hts_lt (s := s) (a := i) (b := i + 1) hi (by omega)
  have hΔ : (((hts s)[i]! : Int) : Rat) < (((hts s)[i + 1]! : Int) : Rat) := by exact_mod_cast hlt
  have hcast : (((hts s)[i + 1]! - (hts s)[i]! : Int) : Rat) = (((hts s)[i + 1]! : Int) : Rat) - (((hts s)[i]! : Int) : Rat) := Rat.intCast_sub _ _
  have line := fun r (a : 0 ≤ r) b => ds_line (d := d) hf hi (r := r) a b
  generalize hX : (((hts s)[i]! : Int) : Rat) = X at *
  generalize hY : (((hts s)[i + 1]! : Int) : Rat) = Y at *
  generalize hG : gradQ s d (hts s)[i]! = G at *
  have full := line (Y - X) (by grind) (by grind)
  rw [show X + (Y - X) = Y by grind] at full
  generalize hm' : (m : Rat) = M at *
  have hval : valQ s m d (i + 1) = X + (M - dsQ s d X) / (dsQ s d Y - dsQ s d X) * (Y - X) := by
    unfold valQ
    rw [Nat.add_sub_cancel, hcast, hX, hY, hm']
  have hΔ0 : 0 < Y - X := by grind
  have hGΔ : 0 < G * (Y - X) := by grind
  have hGp : 0 < G := by
    rcases (Rat.le_total : G ≤ 0 ∨ 0 ≤ G) with h | h
    · exfalso
      have h4 : 0 ≤ (-G) * (Y - X) := Rat.mul_nonneg (by grind) (by grind)
      grind
    · rcases (by grind : G = 0 ∨ 0 < G) with h0 | h0
      · rw [h0, Rat.zero_mul] at hGΔ; grind
      · exact h0
  have hG0 : G ≠ 0 := by grind
  generalize hr : (M - dsQ s d X) / (dsQ s d Y - dsQ s d X) * (Y - X) = r at *
  have hrG : G * r = M - dsQ s d X := by
    rw [← hr, full]
    have h5 : Y - X ≠ 0 := by grind
    grind
  have hr0 : 0 < r := by
    rcases (Rat.le_total : r ≤ 0 ∨ 0 ≤ r) with h | h
    · exfalso
      have h4 : 0 ≤ G * (-r) := Rat.mul_nonneg (by grind) (by grind)
      grind
    · rcases (by grind : r = 0 ∨ 0 < r) with h0 | h0
      · rw [h0, Rat.mul_zero] at hrG; grind
      · exact h0
  have hr1 : r ≤ Y - X := by
    rcases (Rat.le_total : r ≤ Y - X ∨ Y - X ≤ r) with h | h
    · exact h
    · have h4 : 0 ≤ G * (r - (Y - X)) := Rat.mul_nonneg (by grind) (by grind)
      rcases (by grind : r = Y - X ∨ 0 < r - (Y - X)) with h0 | h0
      · grind
      · exfalso
        have h6 : 0 < G * (r - (Y - X)) := Rat.mul_pos hGp h0
        grind
  rw [hval]
  refine ⟨by rw [line r (by grind) hr1, hrG]; grind, ?_⟩
  by_cases hone : 1 ≤ r
  · rw [show X + r - 1 = X + (r - 1) by grind, line (r - 1) (by grind) (by grind)]
    grind
  · have := ds_mono (s := s) hf (d := d) hd.1 (y := X + r - 1) (z := X) (by grind)
    grind
end
theorem Hyd0_eq {N : Nat} {s : GShip} {p : Rat} {d : Int} (ht : Tame s) (hp : Sz 1000 p) (hb : bothE s d = 0) (hN : 2 ^ 64 ≤ N) :
    f_hull_Hydrostatics N s ⟨R p, R ((0 : Int) : Rat)⟩ d = some (if vQ s p 0 = 0 then (zeroH, 29) else (hydroQ s p 0 d, 0)) := by
  unfold f_hull_Hydrostatics
  rw [floated_eq ht hN, bS, cmp_neq]
  obtain ⟨hs, hd⟩ := both_ok hb
  have hf := Fits.of ht hs
  have hd := dens_ok hd
  rw [dT hb, Bool.not_true, cond_false, hyd_eq hf (k := 1000) (K := 1000) (p := p) (q := 0) (a := ⟨R p, R ((0 : Int) : Rat)⟩) (Qf.R hp) (Qf.R (q := 0) (Sz.zero.mono (by omega))) (by omega) (by omega) (fun i hi => by rw [yT0]; exact hp) (by omega) (by omega) hN, bS]
  by_cases hV : vQ s p 0 = 0
  · rw [if_pos hV, if_pos hV]; rfl
  · rw [if_neg hV, if_neg hV]; rfl
theorem ds_ne {s : GShip} {d : Int} {p : Rat} {m : Int} (hm : 1 ≤ m) (h : dsQ s d p = (m : Rat)) : vQ s p 0 ≠ 0 := fun e => by
  unfold dsQ kgQ at h
  rw [e] at h
  have h0 : (0 : Rat) < (m : Rat) := by exact_mod_cast (show (0 : Int) < m by omega)
  simp [Rat.div_def] at h
  grind
theorem law_HullDraughts (x0 : GShip) (x1 : Int) (x2 : Int) (h0 : x0.ok) (h1 : gI .i64 x1) (h2 : gI .i64 x2) : f_law02_HullDraughts (2 ^ 70) x0 x1 x2 = some true := by
  have hN : 2 ^ 64 ≤ (2 ^ 70 : Nat) := by decide
  unfold f_law02_HullDraughts
  rw [awake_true, bS, Bool.not_true, cond_false]
  obtain ⟨b, hb, ht⟩ := small_eq (s := x0) hN
  rw [hb, bS]
  cases b with
  | false => rfl
  | true =>
    have ht := ht rfl
    rw [Bool.not_true, cond_false]
    have same0 : ∀ z : Int, ((bif (cmpI .eql z z) then (f_base_SameRat (2 ^ 70) zeroR zeroR) else some false).bind fun v8 => some ((cmpI .eql z z) && v8)) = some true := fun z => by
      rw [cmp_eql, dT rfl, cond_true, same_refl Len.zero hN]; rfl
    have start : f_hull_Draught (2 ^ 70) x0 x1 x2 = if bothE x0 x2 = 0 then (if inR 1 1000000000 x1 = true then ((f_hull_whole (2 ^ 70) x1).bind fun v3 => (f_hull_whole (2 ^ 70) 0).bind fun v4 => (f_hull_heights (2 ^ 70) x0).bind fun v5 => (loopN (f_hull_Draught_L1 (2 ^ 70) x0 x2 v3 v5) (2 ^ 70) (zeroR, 0, v4, 0)).bind fun o19 => Sum.elim (fun l21 => some (zeroR, 12)) (fun r22 => some (r22.1, r22.2)) o19) else some (zeroR, 2)) else some (zeroR, bothE x0 x2) := by
      unfold f_hull_Draught
      rw [floated_eq ht hN, bS, cmp_neq, between_eq, bS]
      by_cases hz : bothE x0 x2 = 0
      · rw [dT hz, if_pos hz, Bool.not_true, cond_false]
        cases inR 1 1000000000 x1 <;> rfl
      · rw [dF hz, if_neg hz]; rfl
    by_cases hz : bothE x0 x2 = 0
    · rw [if_pos hz] at start
      obtain ⟨hs, hd⟩ := both_ok hz
      have hf := Fits.of ht hs
      have hd := dens_ok hd
      by_cases hr : inR 1 1000000000 x1 = true
      · rw [if_pos hr] at start
        rw [inR_iff] at hr
        obtain ⟨hp1, hp2⟩ := hts_pos hf
        have zm : Sz 64 (x1 : Rat) := Sz.i64 (by omega) (by omega)
        rw [whole_eq (by omega) (by omega) hN, bS, whole_eq (by omega) (by omega) hN, bS, heights_eq hf hN, bS, prog_loop hf hd hr hN, bS] at start
        have rst : f_ref02_Draught (2 ^ 70) x0 x1 x2 = Sum.elim (fun l50 => (f_base_W (2 ^ 70) 0).bind fun v52 => some (v52, false)) (fun r51 => some (r51.1, r51.2)) (errOr (Sum.inl zeroR) (fun z => Sum.inr (R (valQ x0 x1 x2 (z.toNat - 1)), true)) (firstErr (stepE x0 x1 x2) (hts x0).length 0)) := by
          unfold f_ref02_Draught
          rw [rlev_loop hf hN, bS, show idx (hts x0) 0 = some (hts x0)[0]! from idxB (i := 0) (by omega), bS, rdisp_eq hf hd hN (hts_bd hf (a := 0) (by omega)), bS]
          rw [show loopN (f_ref02_Draught_L2 (2 ^ 70) x0 x1 x2 (hts x0)) (2 ^ 70) ((⟨(⟨false, []⟩ : GInt), (⟨false, []⟩ : GInt)⟩ : GRat), R (dsQ x0 x2 (((hts x0)[0]! : Int) : Rat)), 1) = _ from ref_loop2 hf hd hr hN, bS]; rfl
        have o6 : ((bif ((cmpI .eql (bothE x0 x2) 0) && ((cmpI .lss x1 1) || (cmpI .gtr x1 1000000000))) then (some 2) else (some (bothE x0 x2))) : Option Int) = some 0 := by
          rw [cmp_eql, cmp_lss, cmp_gtr, dT hz, dF (show ¬x1 < 1 by omega), dF (show ¬1000000000 < x1 by omega), hz]; rfl
        by_cases he : firstErr (stepE x0 x1 x2) (hts x0).length 0 = 0
        · rw [he] at start rst
          rw [show f_hull_Draught (2 ^ 70) x0 x1 x2 = some (zeroR, 12) from start, bS, both_eq ht hN, bS, o6, bS]
          rw [show f_ref02_Draught (2 ^ 70) x0 x1 x2 = (f_base_W (2 ^ 70) 0).bind fun v52 => some (v52, false) from rst, W_R (by omega) (by omega) hN]
          exact same0 12
        · obtain ⟨i, _, hi, e1, e2, e3⟩ := firstErr_ex he
          have hi1 : i < (hts x0).length := by omega
          have hi0 : i ≠ 0 := fun h => by subst h; exact e2 (e0_zero hf hr)
          obtain ⟨j, rfl⟩ : ∃ j, i = j + 1 := ⟨i - 1, by omega⟩
          have hc : ¬dsQ x0 x2 (((hts x0)[j + 1]! : Int) : Rat) < (x1 : Rat) := fun h => e2 (by unfold stepE; rw [if_pos h])
          have hc0 : dsQ x0 x2 (((hts x0)[j]! : Int) : Rat) < (x1 : Rat) := by
            have := e3 j (by omega) (by omega)
            unfold stepE at this
            split at this
            · rename_i h; exact h
            · omega
          have ev : firstErr (stepE x0 x1 x2) (hts x0).length 0 = ((j + 1 + 1 : Nat) : Int) := by rw [e1]; unfold stepE; rw [if_neg hc]
          obtain ⟨k1, k2⟩ := val_spec hf hd hi1 hc0 hc
          have zv := val_sz (m := x1) hf hd hi1 (by omega) (by omega)
          rw [ev] at start rst
          have start' : f_hull_Draught (2 ^ 70) x0 x1 x2 = some (R (valQ x0 x1 x2 (j + 1)), 0) := by
            rw [start]; unfold errOr; rw [if_neg (by omega)]; rfl
          have rst' : f_ref02_Draught (2 ^ 70) x0 x1 x2 = some (R (valQ x0 x1 x2 (j + 1)), true) := by
            rw [rst]; unfold errOr; rw [if_neg (by omega)]; rfl
          generalize valQ x0 x1 x2 (j + 1) = v at *
          have z1 : Sz 64 ((1 : Int) : Rat) := Sz.i64 (by omega) (by omega)
          have lev : ∀ q : Rat, f_ref02_Level (2 ^ 70) (R q) = some ⟨R q, R ((0 : Int) : Rat)⟩ := fun q => by
            unfold f_ref02_Level
            rw [W_R (by omega) (by omega) hN]; rfl
          have hV := ds_ne hr.1 k1
          rw [start', bS, both_eq ht hN, bS, o6, bS, rst', cmp_neq, dT rfl, Bool.not_true, cond_false, bS]
          dsimp only
          rw [Bool.not_true, cond_false, lev, bS, Hyd0_eq ht (zv.mono (by omega)) hz hN, bS, if_neg hV, W_R (by omega) (by omega) hN, bS, SubRat_eq (Qf.R zv) (Qf.R z1) (by omega) hN, bS, lev, bS, Hyd0_eq ht ((zv.sub z1).mono (by omega)) hz hN, bS]
          simp only [cmp_eql, decide_true, cond_true, Bool.true_and]
          rw [SameRat_R zv (by omega) hN, bS, dT rfl, W_R (by omega) (by omega) hN, Bool.and_self, cond_true, bS, cond_true, show (hydroQ x0 v 0 x2).Displacement = R (dsQ x0 x2 v) from rfl, k1, SameRat_R zm (by omega) hN, bS, dT rfl]
          by_cases hV2 : vQ x0 (v - ((1 : Int) : Rat)) 0 = 0
          · rw [if_pos hV2]; rfl
          · rw [if_neg hV2]
            have k2' : dsQ x0 x2 (v - ((1 : Int) : Rat)) < (x1 : Rat) := k2
            have sV : Sz 55000 (vQ x0 (v - ((1 : Int) : Rat)) 0) := hf.szV (K := 1000) (by omega) (fun i hi => by rw [yT0]; exact (zv.sub z1).mono (by omega)) (Nat.le_refl _)
            have sD : Sz 56000 (dsQ x0 x2 (v - ((1 : Int) : Rat))) := ((sV.mul (Sz.i64 (z := x2) (by omega) (by omega))).div (Sz.i64 (z := 1000000000) (by omega) (by omega))).mono (by omega)
            show ((bif true && true && true && true && !decide ((0 : Int) = 29) && decide ((0 : Int) = 0) then some (R (x1 : Rat)) else some zeroR).bind fun v20 => (bif true && true && true && true && !decide ((0 : Int) = 29) && decide ((0 : Int) = 0) then f_exact_CmpRat (2 ^ 70) (R (dsQ x0 x2 (v - ((1 : Int) : Rat)))) v20 else some 0).bind fun v21 => some (true && true && true && true && (decide ((0 : Int) = 29) || decide ((0 : Int) = 0) && cmpI .lss v21 0))) = some true
            rw [show (true && true && true && true && !decide ((0 : Int) = 29) && decide ((0 : Int) = 0)) = true from rfl, cond_true, bS, cond_true, CmpRat_eq (Qf.R sD) (Qf.R zm) (by omega) hN, bS, cmp_lss, cmpQ_lt, dT k2']; rfl
      · rw [if_neg hr] at start
        have hr' : x1 < 1 ∨ 1000000000 < x1 := by rw [inR_iff] at hr; omega
        have o6 : ((bif ((cmpI .eql (bothE x0 x2) 0) && ((cmpI .lss x1 1) || (cmpI .gtr x1 1000000000))) then (some 2) else (some (bothE x0 x2))) : Option Int) = some 2 := by
          rw [cmp_eql, cmp_lss, cmp_gtr, dT hz]
          rcases hr' with h | h
          · rw [dT h]; rfl
          · rw [dT h, Bool.or_true]; rfl
        rw [start, bS, both_eq ht hN, bS, o6, bS]
        exact same0 2
    · rw [if_neg hz] at start
      rw [start, bS, both_eq ht hN, bS, cmp_eql, dF hz, Bool.false_and, cond_false, bS, cmp_neq, dF hz]
      exact same0 _
end Go.KB
