/- Plain laws: water that rises: the volume grows by the area of the waterplane. No condition. -/
import Derived.Test.YtbedbjphickpaaaGreatPZe
namespace Go.KB
set_option linter.unusedVariables false
set_option maxRecDepth 100000

theorem sumQ_add {f g : Nat → Rat} : ∀ {n : Nat}, sumQ (fun k => f k + g k) n = sumQ f n + sumQ g n := by
  intro n
  induction n with
  | zero => exact (Rat.add_zero 0).symm
  | succ n ih => rw [sumQ, sumQ, sumQ, ih]; grind
theorem sumQ_mulc {f : Nat → Rat} {c : Rat} : ∀ {n : Nat}, sumQ (fun k => f k * c) n = sumQ f n * c := by
  intro n
  induction n with
  | zero => exact (Rat.zero_mul c).symm
  | succ n ih => rw [sumQ, sumQ, ih]; grind
theorem sumQ_le {f g : Nat → Rat} : ∀ {n : Nat}, (∀ k, k < n → f k ≤ g k) → sumQ f n ≤ sumQ g n := by
  intro n
  induction n with
  | zero => intro _; exact Rat.le_refl
  | succ n ih => intro h; rw [sumQ, sumQ]; have h1 := ih (fun k hk => h k (by omega)); have h2 := h n (by omega); grind
theorem sumQ_one {f : Nat → Rat} {j : Nat} : ∀ {n : Nat}, j < n → (∀ k, k < n → k ≠ j → f k = 0) → sumQ f n = f j := by
  intro n
  induction n with
  | zero => intro h; omega
  | succ n ih =>
    intro h hz
    rw [sumQ]
    rcases Nat.lt_succ_iff_lt_or_eq.1 h with h | rfl
    · rw [ih h (fun k hk => hz k (by omega)), hz n (by omega) (by omega), Rat.add_zero]
    · rw [sumQ_const (i := 0) (by omega) (fun k _ hk => hz k (by omega) (by omega))]; exact Rat.zero_add _
theorem firstErr_one {e : Nat → Int} {j : Nat} : ∀ {k i : Nat}, i ≤ j → j < i + k → (∀ m, i ≤ m → m < j → e m = 0) → e j ≠ 0 → firstErr e k i = e j := by
  intro k
  induction k with
  | zero => intro i h1 h2; omega
  | succ k ih =>
    intro i h1 h2 hz h0
    rw [firstErr]
    rcases Nat.eq_or_lt_of_le h1 with rfl | h1
    · rw [if_neg h0]
    · rw [if_pos (hz i (by omega) h1)]
      exact ih (by omega) (by omega) (fun m hm1 hm2 => hz m (by omega) hm2) h0
section
variable {t : GStation} {y r : Rat} {k : Nat}
theorem Fit.lt (h : Fit t) (hk : k < t.Halves.length) : lvQ t k < lvQ t (k + 1) := by
  have := h.nh
  have := h.la (k + 1) (by omega) (by omega)
  rw [Nat.add_sub_cancel] at this
  exact_mod_cast this
theorem part_mono (h : Fit t) (hk : k < t.Halves.length) (hr : 0 ≤ r) : partQ t y k ≤ partQ t (y + r) k := by
  have := h.lt hk
  unfold partQ topQ
  grind
theorem part_grow (h : Fit t) (hk : k < t.Halves.length) (hr : 0 ≤ r) (h1 : ¬(y < lvQ t k ∧ lvQ t k < y + r)) (h2 : ¬(y < lvQ t (k + 1) ∧ lvQ t (k + 1) < y + r)) :
    partQ t (y + r) k = partQ t y k + (if lvQ t k ≤ y ∧ y < lvQ t (k + 1) then r else 0) := by
  have := h.lt hk
  unfold partQ topQ
  grind
theorem half_sum (h : Fit t) : sumQ (fun k => ((2 * t.Halves[k]! : Int) : Rat) * (if lvQ t k ≤ y ∧ y < lvQ t (k + 1) then r else 0)) t.Halves.length = ((2 : Int) : Rat) * ((halfQ t y : Int) : Rat) * r := by
  have hn := h.nh
  by_cases hx : ∃ j, j < t.Halves.length ∧ lvQ t j ≤ y ∧ y < lvQ t (j + 1)
  · obtain ⟨j, hj, hc⟩ := hx
    have hz : ∀ k, k < t.Halves.length → k ≠ j → ¬(lvQ t k ≤ y ∧ y < lvQ t (k + 1)) := fun k hk hne hc' => by
      rcases Nat.lt_or_gt_of_ne hne with hlt | hlt
      · have h1 := h.asc (show k + 1 ≤ j by omega) (by omega)
        have h2 : lvQ t (k + 1) ≤ lvQ t j := by exact_mod_cast h1
        grind
      · have h1 := h.asc (show j + 1 ≤ k by omega) (by omega)
        have h2 : lvQ t (j + 1) ≤ lvQ t k := by exact_mod_cast h1
        grind
    rw [sumQ_one hj (fun k hk hne => by rw [if_neg (hz k hk hne)]; exact Rat.mul_zero _), if_pos hc]
    have hb := h.hb j hj
    have e1 : haT t y j = t.Halves[j]! + 1 := by unfold haT; rw [if_pos hc]
    have e2 : firstErr (haT t y) t.Halves.length 0 = t.Halves[j]! + 1 := by
      rw [← e1]
      exact firstErr_one (by omega) (by omega) (fun m _ hm => by unfold haT; rw [if_neg (hz m (by omega) (by omega))]) (by rw [e1]; omega)
    have e3 : halfQ t y = t.Halves[j]! := by
      unfold halfQ
      rw [e2, if_neg (by omega)]; omega
    rw [e3, Rat.intCast_mul]
  · have hz : ∀ k, k < t.Halves.length → ¬(lvQ t k ≤ y ∧ y < lvQ t (k + 1)) := fun k hk hc => hx ⟨k, hk, hc⟩
    rw [sumQ_const (i := 0) (by omega) (fun k _ hk => by rw [if_neg (hz k hk)]; exact Rat.mul_zero _)]
    have e2 : firstErr (haT t y) t.Halves.length 0 = 0 := by
      have := firstErr_all (e := haT t y) (p := fun z => z = 0) rfl (k := t.Halves.length) (i := 0) (fun j _ hj => by unfold haT; rw [if_neg (hz j (by omega))])
      exact this
    unfold halfQ
    rw [e2, if_pos rfl]
    show (0 : Rat) = _
    grind
theorem area_grow (h : Fit t) (hr : 0 ≤ r) (hno : ∀ j, j < t.Levels.length → ¬(y < lvQ t j ∧ lvQ t j < y + r)) : areaQ t (y + r) = areaQ t y + ((2 : Int) : Rat) * ((halfQ t y : Int) : Rat) * r := by
  have hn := h.nh
  rw [← half_sum h]
  unfold areaQ
  rw [← sumQ_add]
  refine sumQ_congr fun k hk => ?_
  unfold arT
  rw [part_grow h hk hr (hno k (by omega)) (hno (k + 1) (by omega))]
  grind
theorem area_mono (h : Fit t) (hr : 0 ≤ r) : areaQ t y ≤ areaQ t (y + r) := by
  refine sumQ_le fun k hk => ?_
  unfold arT
  have hb := h.hb k hk
  have h0 : (0 : Rat) ≤ ((2 * t.Halves[k]! : Int) : Rat) := by exact_mod_cast (show (0 : Int) ≤ 2 * t.Halves[k]! by omega)
  exact Rat.mul_le_mul_of_nonneg_left (part_mono h hk hr) h0
end
section
variable {s : GShip} {p q r : Rat} {i : Nat}
theorem yT_rise : yT s (p + r) q i = yT s p q i + r := by unfold yT ySet; grind
theorem vQ_mono (h : Fits s) (hr : 0 ≤ r) : vQ s p q ≤ vQ s (p + r) q := by
  refine sumQ_le fun k hk => ?_
  have hf := h.fit k hk
  unfold tV aT
  rw [yT_rise]
  have h0 : (0 : Rat) ≤ wT s k := by have := hf.w0; unfold wT; exact_mod_cast (show (0 : Int) ≤ s.Stations[k]!.Width by omega)
  exact Rat.mul_le_mul_of_nonneg_left (area_mono hf hr) h0
theorem vQ_rise (h : Fits s) (hr : 0 ≤ r) (hno : ∀ k, k < s.Stations.length → ∀ j, j < s.Stations[k]!.Levels.length → ¬(yT s p q k < lvQ s.Stations[k]! j ∧ lvQ s.Stations[k]! j < yT s p q k + r)) :
    vQ s (p + r) q = vQ s p q + wpQ s p q * r ∧ xQ s (p + r) q = xQ s p q + fQ s p q * r := by
  have ha : ∀ k, k < s.Stations.length → aT s (p + r) q k = aT s p q k + ((2 : Int) : Rat) * bT s p q k * r := fun k hk => by
    unfold aT bT
    rw [yT_rise, area_grow (h.fit k hk) hr (hno k hk)]
  constructor
  · unfold vQ wpQ
    rw [← sumQ_mulc, ← sumQ_add]
    refine sumQ_congr fun k hk => ?_
    unfold tV tA
    rw [ha k hk]; grind
  · unfold xQ fQ
    rw [← sumQ_mulc, ← sumQ_add]
    refine sumQ_congr fun k hk => ?_
    unfold tX tF tA
    rw [ha k hk]; grind
theorem tA_nonneg (h : Fits s) {k : Nat} (hk : k < s.Stations.length) : 0 ≤ tA s p q k := by
  have hf := h.fit k hk
  have h0 : (0 : Rat) ≤ wT s k := by have := hf.w0; unfold wT; exact_mod_cast (show (0 : Int) ≤ s.Stations[k]!.Width by omega)
  have h1 : (0 : Rat) ≤ bT s p q k := by have := hf.half (yT s p q k); unfold bT; exact_mod_cast this.1
  have h2 : (0 : Rat) ≤ ((2 : Int) : Rat) := by decide
  unfold tA
  exact Rat.mul_nonneg (Rat.mul_nonneg h2 h1) h0
theorem dry_tA (h : Fits s) (hz : wpQ s p q = 0) {k : Nat} (hk : k < s.Stations.length) : tA s p q k = 0 := sumQ_zero (fun k hk => tA_nonneg h hk) hz k hk
theorem dry_fQ (h : Fits s) (hz : wpQ s p q = 0) : fQ s p q = 0 := by
  unfold fQ
  rw [sumQ_const (i := 0) (by omega) (fun k _ hk => by unfold tF; rw [dry_tA h hz hk]; grind)]; rfl
end
end Go.KB
