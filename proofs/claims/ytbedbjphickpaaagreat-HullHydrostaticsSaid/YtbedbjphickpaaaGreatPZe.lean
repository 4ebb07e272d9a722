/- Plain laws: what is immersed of a station, of the program. Plain laws: the hydrostatics that the program computes. Plain laws: the hydrostatics of the reference. Plain laws: attitudes with short numbers, errors of densities, hydrostatics that are the same. No condition. -/
import Derived.Test.YtbedbjphickpaaaGreatPZd
import Derived.Test.YtbedbjphickpaaaGreatPZb
namespace Go.KB
set_option linter.unusedVariables false
set_option maxRecDepth 100000
def sumQ (f : Nat → Rat) : Nat → Rat
 | 0 => 0
 | n + 1 => sumQ f n + f n
theorem sumQ_const {f : Nat → Rat} {i : Nat} : ∀ {n : Nat}, i ≤ n → (∀ k, i ≤ k → k < n → f k = 0) → sumQ f n = sumQ f i := by
  intro n
  induction n with
  | zero => intro h _; obtain rfl : i = 0 := by omega
            rfl
  | succ n ih =>
    intro h hz
    rcases Nat.eq_or_lt_of_le h with rfl | h
    · rfl
    · rw [sumQ, ih (by omega) (fun k h1 h2 => hz k h1 (by omega)), hz n (by omega) (by omega), Rat.add_zero]
theorem sumQ_nonneg {f : Nat → Rat} : ∀ {n : Nat}, (∀ k, k < n → 0 ≤ f k) → 0 ≤ sumQ f n := by
 intro n
 induction n with
 | zero => intro _; exact Rat.le_refl
 | succ n ih => intro h; rw [sumQ]; have h1 := ih (fun k hk => h k (by omega)); have h2 := h n (by omega); grind
theorem sumQ_zero {f : Nat → Rat} : ∀ {n : Nat}, (∀ k, k < n → 0 ≤ f k) → sumQ f n = 0 → ∀ k, k < n → f k = 0 := by
 intro n
 induction n with
 | zero => intro _ _ k hk; omega
 | succ n ih =>
  intro h hz k hk
  rw [sumQ] at hz
  have h1 := sumQ_nonneg (n := n) (fun k hk => h k (by omega)); have h2 := h n (by omega)
  rcases Nat.lt_succ_iff_lt_or_eq.1 hk with hk | rfl
  ·exact ih (fun k hk => h k (by omega)) (by grind) k hk
  ·grind
theorem sumSz {f : Nat → Rat} {c : Nat} : ∀ {n : Nat}, (∀ k, k < n → Sz c (f k)) → Sz (c * n) (sumQ f n) := by
 intro n
 induction n with
 | zero => intro _; exact Sz.zero
 | succ n ih => intro h; exact ((ih (fun k hk => h k (by omega))).add (h n (by omega))).mono (by rw [Nat.mul_succ]; exact Nat.le_refl _)
theorem sumSz' {f : Nat → Rat} {c n i m : Nat} (h : ∀ k, k < n → Sz c (f k)) (hi : i ≤ n) (hm : c * n ≤ m) : Sz m (sumQ f i) :=
 (sumSz (fun k hk => h k (by omega))).mono (Nat.le_trans (Nat.mul_le_mul_left c hi) hm)
structure Fit (t : GStation) : Prop where
 x0 : -1000000 ≤ t.X
 x1 : t.X ≤ 1000000
 w0 : 1 ≤ t.Width
 w1 : t.Width ≤ 100000
 n2 : 2 ≤ t.Levels.length
 n3 : t.Levels.length ≤ 30
 nh : t.Halves.length + 1 = t.Levels.length
 l0 : ∀ i, i < t.Levels.length → 0 ≤ t.Levels[i]! ∧ t.Levels[i]! ≤ 100000
 la : ∀ i, 0 < i → i < t.Levels.length → t.Levels[i - 1]! < t.Levels[i]!
 hb : ∀ i, i < t.Halves.length → 0 ≤ t.Halves[i]! ∧ t.Halves[i]! ≤ 100000
theorem inR_iff {a b n : Int} : inR a b n = true ↔ a ≤ n ∧ n ≤ b := by unfold inR; simp
theorem Fit.of {t : GStation} (h1 : placeErr t = 0) (h2 : formErr t = 0) : Fit t := by
  unfold placeErr at h1
  split at h1
  · rename_i hp
    rw [inR_iff, inR_iff] at hp
    unfold formErr at h2
    split at h2
    · cases h2
    · rename_i hn
      split at h2
      · rename_i hl
        have h3 : ∀ i, i < t.Levels.length → (0 ≤ t.Levels[i]! ∧ t.Levels[i]! ≤ 100000) ∧ ¬(0 < i ∧ t.Levels[i]! ≤ t.Levels[i - 1]!) := fun i hi => by
          have := firstErr_zero hl i (by omega) (by omega)
          unfold levE at this
          split at this
          · rename_i h4
            rw [inR_iff] at h4
            split at this
            · cases this
            · rename_i h5; exact ⟨h4, h5⟩
          · cases this
        refine ⟨by omega, by omega, by omega, by omega, by omega, by omega, by omega, fun i hi => (h3 i hi).1, fun i h0 hi => ?_, fun i hi => ?_⟩
        · have := (h3 i hi).2
          omega
        · have := firstErr_zero h2 i (by omega) (by omega)
          unfold halE at this
          split at this
          · rename_i h4; rwa [inR_iff] at h4
          · cases this
      · rename_i hl; exact absurd h2 hl
  · cases h1
theorem Fit.asc {t : GStation} (h : Fit t) {i : Nat} : ∀ {j : Nat}, i ≤ j → j < t.Levels.length → t.Levels[i]! ≤ t.Levels[j]! := by
  intro j
  induction j with
  | zero => intro h1 _; obtain rfl : i = 0 := by omega
            omega
  | succ j ih =>
    intro h1 h2
    rcases Nat.eq_or_lt_of_le h1 with rfl | h1
    · omega
    · have h3 := ih (by omega) (by omega)
      have h4 := h.la (j + 1) (by omega) h2
      rw [Nat.add_sub_cancel] at h4
      omega
abbrev lvQ (t : GStation) (k : Nat) : Rat := (t.Levels[k]! : Int)
def topQ (t : GStation) (y : Rat) (k : Nat) : Rat := if y < lvQ t (k + 1) then y else lvQ t (k + 1)
def partQ (t : GStation) (y : Rat) (k : Nat) : Rat := if y ≤ lvQ t k then 0 else topQ t y k - lvQ t k
def arT (t : GStation) (y : Rat) (k : Nat) : Rat := ((2 * t.Halves[k]! : Int) : Rat) * partQ t y k
def moT (t : GStation) (y : Rat) (k : Nat) : Rat := arT t y k * (lvQ t k + topQ t y k) / ((2 : Int) : Rat)
def areaQ (t : GStation) (y : Rat) : Rat := sumQ (arT t y) t.Halves.length
def momQ (t : GStation) (y : Rat) : Rat := sumQ (moT t y) t.Halves.length
theorem Fit.lSz {t : GStation} (h : Fit t) {k : Nat} (hk : k < t.Levels.length) : Sz 64 (lvQ t k) := by have := h.l0 k hk; exact Sz.i64 (by omega) (by omega)
theorem Fit.topSz {t : GStation} {y : Rat} {K k : Nat} (h : Fit t) (hy : Sz K y) (hk : k < t.Halves.length) : Sz (K + 64) (topQ t y k) := by
 unfold topQ
 have := h.nh
 split
 ·exact hy.mono (by omega)
 ·exact (h.lSz (by omega)).mono (by omega)
theorem Fit.partSz {t : GStation} {y : Rat} {K k : Nat} (h : Fit t) (hy : Sz K y) (hk : k < t.Halves.length) : Sz (K + 128) (partQ t y k) := by
 unfold partQ
 have := h.nh
 split
 ·exact Sz.zero.mono (by omega)
 ·exact ((h.topSz hy hk).sub (h.lSz (by omega))).mono (by omega)
theorem Fit.hSz {t : GStation} {k : Nat} (h : Fit t) (hk : k < t.Halves.length) : Sz 64 ((2 * t.Halves[k]! : Int) : Rat) := by have := h.hb k hk; exact Sz.i64 (by omega) (by omega)
theorem Fit.arSz {t : GStation} {y : Rat} {K k : Nat} (h : Fit t) (hy : Sz K y) (hk : k < t.Halves.length) : Sz (K + 192) (arT t y k) := ((h.hSz hk).mul (h.partSz hy hk)).mono (by omega)
theorem Fit.moSz {t : GStation} {y : Rat} {K k : Nat} (h : Fit t) (hy : Sz K y) (hk : k < t.Halves.length) : Sz (2 * K + 384) (moT t y k) := by
 have := h.nh
 exact (((h.arSz hy hk).mul ((h.lSz (k := k) (by omega)).add (h.topSz hy hk))).div (Sz.i64 (z := 2) (by omega) (by omega))).mono (by omega)
theorem Fit.dry {t : GStation} {y : Rat} {i k : Nat} (h : Fit t) (hi : y ≤ lvQ t i) (h1 : i ≤ k) (hk : k < t.Halves.length) : y ≤ lvQ t k := by
 have := h.nh
 have := h.asc h1 (by omega)
 have h2 : lvQ t i ≤ lvQ t k := by exact_mod_cast this
 grind
theorem arT_dry {t : GStation} {y : Rat} {k : Nat} (h : y ≤ lvQ t k) : arT t y k = 0 := by unfold arT partQ; rw [if_pos h]; grind
theorem moT_dry {t : GStation} {y : Rat} {k : Nat} (h : y ≤ lvQ t k) : moT t y k = 0 := by unfold moT; rw [arT_dry h]; simp [Rat.div_def]
theorem immersed_eq {N K : Nat} {t : GStation} {y : Rat} (h : Fit t) (hy : Sz K y) (hK : K ≤ 10000) (hN : 2 ^ 64 ≤ N) : f_hull_immersed N t (R y) = some ⟨R (areaQ t y), R (momQ t y)⟩ := by
  unfold f_hull_immersed
  have hn := h.nh; have hn3 := h.n3
  rw [whole_eq (by omega) (by omega) hN, bS, bS]
  have hb1 : (K + 192) * t.Halves.length ≤ 400000 := Nat.le_trans (Nat.mul_le_mul (show K + 192 ≤ 10200 by omega) (show t.Halves.length ≤ 30 by omega)) (by omega)
  have hb2 : (2 * K + 384) * t.Halves.length ≤ 800000 := Nat.le_trans (Nat.mul_le_mul (show 2 * K + 384 ≤ 20400 by omega) (show t.Halves.length ≤ 30 by omega)) (by omega)
  have := loopN_eq (f := f_hull_immersed_L1 N t (R y)) (fun s => ∃ i : Nat, s = ((⟨R (sumQ (arT t y) i), R (sumQ (moT t y) i)⟩ : Ghull_section), (i : Int)) ∧ i ≤ t.Halves.length) (fun s => t.Halves.length - s.2.toNat) (⟨R (areaQ t y), R (momQ t y)⟩ : Ghull_section) (by
    rintro s ⟨i, rfl, hi⟩
    unfold f_hull_immersed_L1
    simp only [cmp_lss, cmp_leq]
    by_cases hlt : i < t.Halves.length
    · have hl1 := h.l0 i (by omega); have hl2 := h.l0 (i + 1) (by omega); have hh := h.hb i hlt
      have z1 := h.lSz (k := i) (by omega); have z2 := h.lSz (k := i + 1) (by omega)
      have zt := h.topSz hy hlt
      rw [dT (by omega), cond_true, idxB hlt, bS, idxB (by omega), bS, whole_eq (by omega) (by omega) hN, bS, w64s (by omega), idxB (by omega), bS, whole_eq (by omega) (by omega) hN, bS,
        CmpRat_eq (Qf.R hy) (Qf.R z1) (by omega) hN, bS, cmpQ_le]
      by_cases hd : y ≤ lvQ t i
      · right
        rw [dT hd, cond_true]
        show some (Sum.inr (⟨R (sumQ (arT t y) i), R (sumQ (moT t y) i)⟩ : Ghull_section)) = _
        unfold areaQ momQ
        rw [sumQ_const hi (fun k h1 h2 => arT_dry (h.dry hd h1 h2)), sumQ_const hi (fun k h1 h2 => moT_dry (h.dry hd h1 h2))]
      · left
        have ht : ((f_exact_CmpRat N (R y) (R (lvQ t (i + 1)))).bind fun v10 => bif decide (v10 < 0) then (some (R y)) else (some (R (lvQ t (i + 1))))) = some (R (topQ t y i)) := by
          rw [CmpRat_eq (Qf.R hy) (Qf.R z2) (by omega) hN, bS, cmpQ_lt]
          unfold topQ
          by_cases hc : y < lvQ t (i + 1)
          · rw [dT hc, if_pos hc]; rfl
          · rw [dF hc, if_neg hc]; rfl
        have hp : arT t y i = ((2 * t.Halves[i]! : Int) : Rat) * (topQ t y i - lvQ t i) := by unfold arT partQ; rw [if_neg hd]
        have zp := h.arSz hy hlt
        have s1 := sumSz' (c := K + 192) (i := i) (fun k hk => h.arSz hy hk) hi hb1
        have s2 := sumSz' (c := 2 * K + 384) (i := i) (fun k hk => h.moSz hy hk) hi hb2
        rw [dF hd, cond_false, ht, bS, w64 (by omega) (by omega), whole_eq (by omega) (by omega) hN, bS, SubRat_eq (Qf.R zt) (Qf.R z1) (by omega) hN, bS, times2 (Qf.R (h.hSz hlt)) (Qf.R (zt.sub z1)) (h.hSz hlt) (zt.sub z1) (by omega) hN, bS, ← hp,
          AddRat_eq (Qf.R s1) (Qf.R zp) (by omega) hN, bS, AddRat_eq (Qf.R z1) (Qf.R zt) (by omega) hN, bS, times2 (Qf.R zp) (Qf.R (z1.add zt)) zp (z1.add zt) (by omega) hN, bS, whole_eq (by omega) (by omega) hN, bS,
          over_eq (Qf.R (zp.mul (z1.add zt))) (Qf.R (k := 64) (Sz.i64 (by omega) (by omega))) (by omega) (by exact rat_ne (by omega)) hN, bS, show arT t y i * (lvQ t i + topQ t y i) / ((2 : Int) : Rat) = moT t y i from rfl]
        rw [AddRat_eq (Qf.R s2) (Qf.R (h.moSz hy hlt)) (by omega) hN, bS]
        exact ⟨_, rfl, ⟨i + 1, rfl, by omega⟩, by simp; omega⟩
    · right
      obtain rfl : i = t.Halves.length := by omega
      rw [dF (by omega)]; rfl) N (⟨R 0, R 0⟩, 0) ⟨0, rfl, by omega⟩ (by simp; omega)
  rw [show loopN (f_hull_immersed_L1 N t (R y)) N ((⟨R ((0 : Int) : Rat), R ((0 : Int) : Rat)⟩ : Ghull_section), 0) = _ from this]; rfl
def haT (t : GStation) (y : Rat) (k : Nat) : Int := if lvQ t k ≤ y ∧ y < lvQ t (k + 1) then t.Halves[k]! + 1 else 0
def halfQ (t : GStation) (y : Rat) : Int := if firstErr (haT t y) t.Halves.length 0 = 0 then 0 else firstErr (haT t y) t.Halves.length 0 - 1
theorem firstErr_all {e : Nat → Int} {p : Int → Prop} (h0 : p 0) : ∀ {k i : Nat}, (∀ j, i ≤ j → j < i + k → p (e j)) → p (firstErr e k i) := by
 intro k
 induction k with
 | zero => intro i _; exact h0
 | succ k ih =>
  intro i h
  rw [firstErr]
  split
  ·exact ih (fun j h1 h2 => h j (by omega) (by omega))
  ·exact h i (by omega) (by omega)
theorem Fit.half {t : GStation} (h : Fit t) (y : Rat) : 0 ≤ halfQ t y ∧ halfQ t y ≤ 100000 := by
 have := firstErr_all (e := haT t y) (p := fun z => 0 ≤ z ∧ z ≤ 100001) (by omega) (k := t.Halves.length) (i := 0) (fun j _ hj => by
  have := h.hb j (by omega)
  unfold haT
  split <;> omega)
 unfold halfQ
 split <;> omega
theorem atWater_eq {N K : Nat} {t : GStation} {y : Rat} (h : Fit t) (hy : Sz K y) (hK : K ≤ 10000) (hN : 2 ^ 64 ≤ N) : f_hull_atWater N t (R y) = some (halfQ t y) := by
  unfold f_hull_atWater
  have hn := h.nh; have hn3 := h.n3
  rw [loop_err (f := f_hull_atWater_L1 N t (R y)) (e := haT t y) (n := t.Halves.length) (fin := Sum.inl ()) (err := fun z => Sum.inr (z - 1)) (fun i hi _ => by
    unfold f_hull_atWater_L1
    simp only [cmp_lss, cmp_geq]
    have hl1 := h.l0 i (by omega); have hl2 := h.l0 (i + 1) (by omega); have hh := h.hb i hi
    have z1 := h.lSz (k := i) (by omega); have z2 := h.lSz (k := i + 1) (by omega)
    rw [dT (by omega), cond_true, idxB hi, bS, idxB (by omega), bS, whole_eq (by omega) (by omega) hN, bS, CmpRat_eq (Qf.R hy) (Qf.R z1) (by omega) hN, bS, cmpQ_ge, w64s (by omega)]
    by_cases h1 : lvQ t i ≤ y
    · rw [dT h1, cond_true, idxB (by omega), bS, cond_true, whole_eq (by omega) (by omega) hN, bS, cond_true, CmpRat_eq (Qf.R hy) (Qf.R z2) (by omega) hN, bS, cmpQ_lt, Bool.true_and]
      by_cases h2 : y < lvQ t (i + 1)
      · have e : haT t y i = t.Halves[i]! + 1 := by unfold haT; rw [if_pos ⟨h1, h2⟩]
        rw [dT h2, e, if_neg (by omega), cond_true, show t.Halves[i]! + 1 - 1 = t.Halves[i]! by omega]
      · have e : haT t y i = 0 := by unfold haT; rw [if_neg (fun h => h2 h.2)]
        rw [dF h2, e]; rfl
    · have e : haT t y i = 0 := by unfold haT; rw [if_neg (fun h => h1 h.1)]
      rw [dF h1, e]; rfl) (fun _ => by
    unfold f_hull_atWater_L1
    simp only [cmp_lss]
    rw [dF (by omega)]; rfl) (by omega), bS]
  unfold errOr halfQ
  split <;> rfl
end Go.KB
namespace Go.KB
set_option linter.unusedVariables false
set_option maxRecDepth 100000
structure Fits (s : GShip) : Prop where
 n1 : 1 ≤ s.Stations.length
 n6 : s.Stations.length ≤ 6
 fit : ∀ i, i < s.Stations.length → Fit s.Stations[i]!
 n8 : ∀ i, i < s.Stations.length → s.Stations[i]!.Levels.length ≤ 8
 len : 1 ≤ s.Length ∧ s.Length ≤ 1000000
 lds : ldsErr s = 0
theorem sta_fit {l : List GStation} {i : Nat} (h : staErr l i = 0) : placeErr l[i]! = 0 ∧ formErr l[i]! = 0 := by
 unfold staErr staErr1 at h
 split at h
 ·rename_i hp
  refine ⟨hp, ?_⟩
  split at h
  ·exact h
  ·split at h
   ·exact h
   ·rename_i hn; exact absurd h hn
 ·rename_i hp; exact absurd h hp
theorem Fits.of {s : GShip} (ht : Tame s) (h : shpErr s = 0) : Fits s := by
 unfold shpErr at h
 split at h
 ·split at h
  ·rename_i hl
   rw [Bool.and_eq_true, inR_iff, inR_iff] at hl
   split at h
   ·rename_i hz
    have hf : ∀ i, i < s.Stations.length → Fit s.Stations[i]! := fun i hi => by
     have := sta_fit (firstErr_zero hz i (by omega) (by omega))
     exact Fit.of this.1 this.2
    refine ⟨by omega, ?_, hf, fun i hi => ?_, hl.1, h⟩
    ·have := ht.s6; omega
    ·have := ht.l8 i hi; have := (hf i hi).n3; omega
   ·rename_i hz; exact absurd h hz
  ·cases h
 ·cases h
section
variable (s : GShip) (p q : Rat)
def yT (i : Nat) : Rat := ySet p q s.Stations[i]!.X
def wT (i : Nat) : Rat := (s.Stations[i]!.Width : Int)
def xT (i : Nat) : Rat := (s.Stations[i]!.X : Int)
def aT (i : Nat) : Rat := areaQ s.Stations[i]! (yT s p q i)
def mT (i : Nat) : Rat := momQ s.Stations[i]! (yT s p q i)
def bT (i : Nat) : Rat := (halfQ s.Stations[i]! (yT s p q i) : Int)
def tV (i : Nat) : Rat := wT s i * aT s p q i
def tX (i : Nat) : Rat := wT s i * aT s p q i * xT s i
def tZ (i : Nat) : Rat := wT s i * mT s p q i
def tA (i : Nat) : Rat := ((2 : Int) : Rat) * bT s p q i * wT s i
def tF (i : Nat) : Rat := tA s p q i * xT s i
def tC (i : Nat) : Rat := ((2 : Int) : Rat) * bT s p q i * bT s p q i * bT s p q i * wT s i / ((3 : Int) : Rat)
def tL (i : Nat) : Rat := tA s p q i * xT s i * xT s i
def hyS (i : Nat) : GHydro := ⟨R (sumQ (tV s p q) i), zeroR, R (sumQ (tX s p q) i), R (sumQ (tZ s p q) i), R (sumQ (tA s p q) i), R (sumQ (tF s p q) i), R (sumQ (tC s p q) i), R (sumQ (tL s p q) i), zeroR⟩
end
section
variable {s : GShip} {p q : Rat} {i : Nat}
theorem Fits.wSz (h : Fits s) (hi : i < s.Stations.length) : Sz 64 (wT s i) := by have := h.fit i hi; have := this.w0; have := (h.fit i hi).w1; exact Sz.i64 (by omega) (by omega)
theorem Fits.xSz (h : Fits s) (hi : i < s.Stations.length) : Sz 64 (xT s i) := by have := (h.fit i hi).x0; have := (h.fit i hi).x1; exact Sz.i64 (by omega) (by omega)
theorem Fits.bSz (h : Fits s) (hi : i < s.Stations.length) : Sz 64 (bT s p q i) := by have := (h.fit i hi).half (yT s p q i); exact Sz.i64 (by omega) (by omega)
variable {K : Nat} (hK : K ≤ 1000) (hy : ∀ i, i < s.Stations.length → Sz K (yT s p q i))
include hK hy
theorem Fits.aSz (h : Fits s) (hi : i < s.Stations.length) : Sz 9000 (aT s p q i) := by
 have h1 := h.fit i hi; have h2 := h.n8 i hi; have h3 := h1.nh
 exact sumSz' (c := K + 192) (fun k hk => h1.arSz (hy i hi) hk) (Nat.le_refl _) (Nat.le_trans (Nat.mul_le_mul (show K + 192 ≤ 1192 by omega) (show _ ≤ 7 by omega)) (by omega))
theorem Fits.mSz (h : Fits s) (hi : i < s.Stations.length) : Sz 17000 (mT s p q i) := by
 have h1 := h.fit i hi; have h2 := h.n8 i hi; have h3 := h1.nh
 exact sumSz' (c := 2 * K + 384) (fun k hk => h1.moSz (hy i hi) hk) (Nat.le_refl _) (Nat.le_trans (Nat.mul_le_mul (show 2 * K + 384 ≤ 2384 by omega) (show _ ≤ 7 by omega)) (by omega))
theorem Fits.vSz (h : Fits s) (hi : i < s.Stations.length) : Sz 9064 (tV s p q i) := ((h.wSz hi).mul (h.aSz hK hy hi)).mono (by omega)
theorem Fits.xxSz (h : Fits s) (hi : i < s.Stations.length) : Sz 9128 (tX s p q i) := ((h.vSz hK hy hi).mul (h.xSz hi)).mono (by omega)
theorem Fits.zSz (h : Fits s) (hi : i < s.Stations.length) : Sz 17064 (tZ s p q i) := ((h.wSz hi).mul (h.mSz hK hy hi)).mono (by omega)
omit hK hy in
theorem Fits.arSz' (h : Fits s) (hi : i < s.Stations.length) : Sz 192 (tA s p q i) := (((Sz.i64 (z := 2) (by omega) (by omega)).mul (h.bSz hi)).mul (h.wSz hi)).mono (by omega)
omit hK hy in
theorem Fits.fSz (h : Fits s) (hi : i < s.Stations.length) : Sz 256 (tF s p q i) := ((h.arSz' hi).mul (h.xSz hi)).mono (by omega)
omit hK hy in
theorem Fits.lSz (h : Fits s) (hi : i < s.Stations.length) : Sz 320 (tL s p q i) := ((h.fSz hi).mul (h.xSz hi)).mono (by omega)
omit hK hy in
theorem Fits.c0Sz (h : Fits s) (hi : i < s.Stations.length) : Sz 320 (((2 : Int) : Rat) * bT s p q i * bT s p q i * bT s p q i * wT s i) := (((((Sz.i64 (z := 2) (by omega) (by omega)).mul (h.bSz hi)).mul (h.bSz hi)).mul (h.bSz hi)).mul (h.wSz hi)).mono (by omega)
omit hK hy in
theorem Fits.cSz (h : Fits s) (hi : i < s.Stations.length) : Sz 384 (tC s p q i) := ((h.c0Sz hi).div (Sz.i64 (z := 3) (by omega) (by omega))).mono (by omega)
theorem Fits.szV (h : Fits s) (hi : i ≤ s.Stations.length) : Sz 55000 (sumQ (tV s p q) i) := sumSz' (fun k hk => h.vSz hK hy hk) hi (Nat.le_trans (Nat.mul_le_mul_left _ h.n6) (by omega))
theorem Fits.szX (h : Fits s) (hi : i ≤ s.Stations.length) : Sz 55000 (sumQ (tX s p q) i) := sumSz' (fun k hk => h.xxSz hK hy hk) hi (Nat.le_trans (Nat.mul_le_mul_left _ h.n6) (by omega))
theorem Fits.szZ (h : Fits s) (hi : i ≤ s.Stations.length) : Sz 103000 (sumQ (tZ s p q) i) := sumSz' (fun k hk => h.zSz hK hy hk) hi (Nat.le_trans (Nat.mul_le_mul_left _ h.n6) (by omega))
omit hK hy in
theorem Fits.szA (h : Fits s) (hi : i ≤ s.Stations.length) : Sz 1200 (sumQ (tA s p q) i) := sumSz' (fun k hk => h.arSz' hk) hi (Nat.le_trans (Nat.mul_le_mul_left _ h.n6) (by omega))
omit hK hy in
theorem Fits.szF (h : Fits s) (hi : i ≤ s.Stations.length) : Sz 1600 (sumQ (tF s p q) i) := sumSz' (fun k hk => h.fSz hk) hi (Nat.le_trans (Nat.mul_le_mul_left _ h.n6) (by omega))
omit hK hy in
theorem Fits.szC (h : Fits s) (hi : i ≤ s.Stations.length) : Sz 2400 (sumQ (tC s p q) i) := sumSz' (fun k hk => h.cSz hk) hi (Nat.le_trans (Nat.mul_le_mul_left _ h.n6) (by omega))
omit hK hy in
theorem Fits.szL (h : Fits s) (hi : i ≤ s.Stations.length) : Sz 2000 (sumQ (tL s p q) i) := sumSz' (fun k hk => h.lSz hk) hi (Nat.le_trans (Nat.mul_le_mul_left _ h.n6) (by omega))
theorem hyd_loop {N k : Nat} {a : GAttitude} (h : Fits s) (h1 : Qf k a.Sink p) (h2 : Qf k a.Slope q) (hk : k ≤ 1000) (hN : 2 ^ 64 ≤ N) : loopN (f_hull_hydrostatics_L1 N s a) N (hyS s p q 0, 0) = some (hyS s p q s.Stations.length) := by
 have h6 := h.n6
 refine loopN_fold (f := f_hull_hydrostatics_L1 N s a) s.Stations.length (hyS s p q) (hyS s p q s.Stations.length) (fun i hi => ?_) ?_ N (by omega)
 ·have hf := h.fit i hi
  have x0 := hf.x0; have x1 := hf.x1; have w0 := hf.w0; have w1 := hf.w1; have hb := hf.half (yT s p q i)
  have hyi := hy i hi
  have zw := h.wSz hi; have zx := h.xSz hi; have za := h.aSz hK hy hi; have zm := h.mSz hK hy hi; have zb := h.bSz (p := p) (q := q) hi
  have z2 : Sz 64 ((2 : Int) : Rat) := Sz.i64 (by omega) (by omega)
  have z3 : Sz 64 ((3 : Int) : Rat) := Sz.i64 (by omega) (by omega)
  have hi' : i ≤ s.Stations.length := by omega
  unfold f_hull_hydrostatics_L1 hyS
  simp only [cmp_lss]
  rw [dT (by omega), cond_true, idxB hi, bS, Imm_eq h1 h2 (by omega) (by omega) (by omega) hN, bS, whole_eq (by omega) (by omega) hN, bS, whole_eq (by omega) (by omega) hN, bS,
   show ySet p q s.Stations[i]!.X = yT s p q i from rfl, immersed_eq hf hyi (by omega) hN, bS,
   show areaQ s.Stations[i]! (yT s p q i) = aT s p q i from rfl, show momQ s.Stations[i]! (yT s p q i) = mT s p q i from rfl, show ((s.Stations[i]!.Width : Int) : Rat) = wT s i from rfl, show ((s.Stations[i]!.X : Int) : Rat) = xT s i from rfl]
  rw [times2 (Qf.R zw) (Qf.R za) zw za (by omega) hN, bS, show wT s i * aT s p q i = tV s p q i from rfl, AddRat_eq (Qf.R (h.szV hK hy hi')) (Qf.R (h.vSz hK hy hi)) (by omega) hN, bS,
   times3 (Qf.R zw) (Qf.R za) (Qf.R zx) zw za zx (by omega) hN, bS, show wT s i * aT s p q i * xT s i = tX s p q i from rfl, AddRat_eq (Qf.R (h.szX hK hy hi')) (Qf.R (h.xxSz hK hy hi)) (by omega) hN, bS,
   times2 (Qf.R zw) (Qf.R zm) zw zm (by omega) hN, bS, show wT s i * mT s p q i = tZ s p q i from rfl, AddRat_eq (Qf.R (h.szZ hK hy hi')) (Qf.R (h.zSz hK hy hi)) (by omega) hN, bS,
   atWater_eq hf hyi (by omega) hN, bS, whole_eq (by omega) (by omega) hN, bS, show ((halfQ s.Stations[i]! (yT s p q i) : Int) : Rat) = bT s p q i from rfl, whole_eq (by omega) (by omega) hN, bS,
   times3 (Qf.R z2) (Qf.R zb) (Qf.R zw) z2 zb zw (by omega) hN, bS, show ((2 : Int) : Rat) * bT s p q i * wT s i = tA s p q i from rfl, AddRat_eq (Qf.R (h.szA hi')) (Qf.R (h.arSz' hi)) (by omega) hN, bS,
   times2 (Qf.R (h.arSz' hi)) (Qf.R zx) (h.arSz' hi) zx (by omega) hN, bS, show tA s p q i * xT s i = tF s p q i from rfl, AddRat_eq (Qf.R (h.szF hi')) (Qf.R (h.fSz hi)) (by omega) hN, bS,
   bS, times5 (Qf.R z2) (Qf.R zb) (Qf.R zw) z2 zb zw (by omega) hN, bS, whole_eq (by omega) (by omega) hN, bS,
   over_eq (Qf.R (h.c0Sz hi)) (Qf.R z3) (by omega) (by exact rat_ne (by omega)) hN, bS, show ((2 : Int) : Rat) * bT s p q i * bT s p q i * bT s p q i * wT s i / ((3 : Int) : Rat) = tC s p q i from rfl, AddRat_eq (Qf.R (h.szC hi')) (Qf.R (h.cSz hi)) (by omega) hN, bS,
   times3 (Qf.R (h.arSz' hi)) (Qf.R zx) (Qf.R zx) (h.arSz' hi) zx zx (by omega) hN, bS, show tA s p q i * xT s i * xT s i = tL s p q i from rfl, AddRat_eq (Qf.R (h.szL hi')) (Qf.R (h.lSz hi)) (by omega) hN, bS, w64s (by omega)]
  rfl
 ·unfold f_hull_hydrostatics_L1
  simp only [cmp_lss]
  rw [dF (by omega)]; rfl
end
section
variable (s : GShip) (p q : Rat)
def vQ : Rat := sumQ (tV s p q) s.Stations.length
def xQ : Rat := sumQ (tX s p q) s.Stations.length
def zQ' : Rat := sumQ (tZ s p q) s.Stations.length
def wpQ : Rat := sumQ (tA s p q) s.Stations.length
def fQ : Rat := sumQ (tF s p q) s.Stations.length
def cQ : Rat := sumQ (tC s p q) s.Stations.length
def lQ : Rat := sumQ (tL s p q) s.Stations.length
def floQ : Rat := if wpQ s p q = 0 then 0 else fQ s p q / wpQ s p q
def lonQ : Rat := if wpQ s p q = 0 then 0 else lQ s p q - wpQ s p q * floQ s p q * floQ s p q
def hydroQ (d : Int) : GHydro := ⟨R (vQ s p q), R (kgQ (vQ s p q) d), R (xQ s p q / vQ s p q), R (zQ' s p q / vQ s p q), R (wpQ s p q), R (floQ s p q), R (cQ s p q), R (lonQ s p q), R (zQ' s p q / vQ s p q + cQ s p q / vQ s p q)⟩
def zeroH : GHydro := ⟨zeroR, zeroR, zeroR, zeroR, zeroR, zeroR, zeroR, zeroR, zeroR⟩
end
theorem hyd_eq {N k K : Nat} {s : GShip} {p q : Rat} {a : GAttitude} {d : Int} (h : Fits s) (h1 : Qf k a.Sink p) (h2 : Qf k a.Slope q) (hk : k ≤ 1000) (hK : K ≤ 1000) (hy : ∀ i, i < s.Stations.length → Sz K (yT s p q i)) (g0 : -9223372036854775808 ≤ d) (g1 : d ≤ 9223372036854775807) (hN : 2 ^ 64 ≤ N) :
    f_hull_hydrostatics N s a d = some (if vQ s p q = 0 then (zeroH, false) else (hydroQ s p q d, true)) := by
  unfold f_hull_hydrostatics
  have sV : Sz 55000 (vQ s p q) := h.szV hK hy (Nat.le_refl _)
  have sX : Sz 55000 (xQ s p q) := h.szX hK hy (Nat.le_refl _)
  have sZ : Sz 103000 (zQ' s p q) := h.szZ hK hy (Nat.le_refl _)
  have sA : Sz 1200 (wpQ s p q) := h.szA (Nat.le_refl _)
  have sF : Sz 1600 (fQ s p q) := h.szF (Nat.le_refl _)
  have sC : Sz 2400 (cQ s p q) := h.szC (Nat.le_refl _)
  have sL : Sz 2000 (lQ s p q) := h.szL (Nat.le_refl _)
  rw [whole_eq (by omega) (by omega) hN, bS]
  rw [show loopN (f_hull_hydrostatics_L1 N s a) N ((⟨R ((0 : Int) : Rat), ⟨⟨false, []⟩, ⟨false, []⟩⟩, R ((0 : Int) : Rat), R ((0 : Int) : Rat), R ((0 : Int) : Rat), R ((0 : Int) : Rat), R ((0 : Int) : Rat), R ((0 : Int) : Rat), ⟨⟨false, []⟩, ⟨false, []⟩⟩⟩ : GHydro), 0) = some (hyS s p q s.Stations.length) from hyd_loop hK hy h h1 h2 hk hN, bS]
  rw [show hyS s p q s.Stations.length = (⟨R (vQ s p q), zeroR, R (xQ s p q), R (zQ' s p q), R (wpQ s p q), R (fQ s p q), R (cQ s p q), R (lQ s p q), zeroR⟩ : GHydro) from rfl]
  dsimp only
  rw [hisZero_eq (Qf.R sV) (by omega) hN, bS]
  by_cases hV : vQ s p q = 0
  · rw [dT hV, cond_true, if_pos hV]; rfl
  · rw [dF hV, cond_false, if_neg hV, mass_eq (Qf.R sV) sV (by omega) g0 g1 hN, bS, over_eq (Qf.R sX) (Qf.R sV) (by omega) hV hN, bS, over_eq (Qf.R sZ) (Qf.R sV) (by omega) hV hN, bS, hisZero_eq (Qf.R sA) (by omega) hN, bS]
    by_cases hA : wpQ s p q = 0
    · rw [dT hA, cond_true, bS, bS, bS]
      dsimp only
      rw [over_eq (Qf.R sC) (Qf.R sV) (by omega) hV hN, bS, AddRat_eq (Qf.R (sZ.div sV)) (Qf.R (sC.div sV)) (by omega) hN, bS]
      unfold hydroQ floQ lonQ
      rw [if_pos hA, if_pos hA]; rfl
    · have eF : floQ s p q = fQ s p q / wpQ s p q := by unfold floQ; rw [if_neg hA]
      have zF := sF.div sA
      rw [dF hA, cond_false, over_eq (Qf.R sF) (Qf.R sA) (by omega) hA hN, bS, ← eF]
      rw [← eF] at zF
      rw [times3 (Qf.R sA) (Qf.R zF) (Qf.R zF) sA zF zF (by omega) hN, bS, SubRat_eq (Qf.R sL) (Qf.R ((sA.mul zF).mul zF)) (by omega) hN, bS, bS]
      dsimp only
      rw [over_eq (Qf.R sC) (Qf.R sV) (by omega) hV hN, bS, AddRat_eq (Qf.R (sZ.div sV)) (Qf.R (sC.div sV)) (by omega) hN, bS]
      unfold hydroQ
      rw [show lonQ s p q = lQ s p q - wpQ s p q * floQ s p q * floQ s p q by unfold lonQ; rw [if_neg hA]]
end Go.KB
namespace Go.KB
set_option linter.unusedVariables false
set_option maxRecDepth 100000
theorem rMass_eq {N k : Nat} {x : GRat} {q : Rat} {d : Int} (h : Qf k x q) (hs : Sz k q) (hk : k ≤ 400000) (h0 : -9223372036854775807 ≤ d) (h1 : d ≤ 9223372036854775807) (hN : 2 ^ 64 ≤ N) : f_ref02_Mass N x d = some (R (kgQ q d)) := by
 unfold f_ref02_Mass kgQ
 have hd := Sz.i64 (z := d) (by omega) h1
 have he := Sz.i64 (z := 1000000000) (by omega) (by omega)
 rw [Q_R h0 h1 (by omega) (by omega) (by omega) hN, bS, rMulRat_eq h (Qf.R (hd.div he)) (by omega) hN]
 show some (R _) = some (R _)
 congr 2
 have := rat_ne (show (1000000000 : Int) ≠ 0 by omega)
 grind
theorem rImm_eq {N k : Nat} {a : GAttitude} {p q : Rat} {x : Int} (h1 : Qf k a.Sink p) (h2 : Qf k a.Slope q) (hk : k ≤ 100000) (g0 : -9223372036854775808 ≤ x) (g1 : x ≤ 9223372036854775807) (hN : 2 ^ 64 ≤ N) : f_ref02_Immersion N a x = some (R (ySet p q x)) := by
 unfold f_ref02_Immersion ySet
 have hd := Sz.i64 g0 g1
 rw [W_R g0 g1 hN, bS, rMulRat_eq h2 (Qf.R hd) (by omega) hN, bS, rAddRat_eq h1 (Qf.R (h2.sz.mul hd)) (by omega) hN]; rfl
theorem least_eq {N K : Nat} {y z : Rat} (hy : Sz K y) (hz : Sz K z) (hK : K ≤ 900000) (hN : 2 ^ 64 ≤ N) : f_ref02_least N (R y) (R z) = some (R (if y < z then y else z)) := by
  unfold f_ref02_least
  rw [rCmpRat_eq (Qf.R hy) (Qf.R hz) (by omega) hN, bS, cmp_leq, cmpQ_le]
  by_cases h : y ≤ z
  · rw [dT h, cond_true, rNormRat_eq (Qf.R hy) (by omega) hN, bS]
    by_cases h2 : y < z
    · rw [if_pos h2]
    · rw [if_neg h2, show y = z by grind]
  · rw [dF h, cond_false, rNormRat_eq (Qf.R hz) (by omega) hN, bS, if_neg (by grind)]
theorem sgnQ_neg {q : Rat} : decide (sgnQ q < 0) = decide (q < 0) := by
 unfold sgnQ
 by_cases h1 : q < 0
 ·rw [if_pos h1, dT h1]; rfl
 ·rw [if_neg h1, dF h1]
  split <;> rfl
theorem sgnQ_z {q : Rat} : decide (sgnQ q = 0) = decide (q = 0) := by
  unfold sgnQ
  by_cases h1 : q < 0
  · have h2 : ¬q = 0 := by grind
    rw [if_pos h1, dF h2]; rfl
  · rw [if_neg h1]
    by_cases h2 : q = 0
    · rw [if_pos h2, dT h2]; rfl
    · rw [if_neg h2, dF h2]; rfl
theorem rpart_eq {N K k : Nat} {t : GStation} {y : Rat} (h : Fit t) (hy : Sz K y) (hK : K ≤ 10000) (hk : k < t.Halves.length) (hN : 2 ^ 64 ≤ N) : f_ref02_part N t (k : Int) (R y) = some (R (partQ t y k)) := by
 have hn := h.nh; have hn3 := h.n3
 have l1 := h.l0 k (by omega); have l2 := h.l0 (k + 1) (by omega)
 have z1 := h.lSz (k := k) (by omega); have z2 := h.lSz (k := k + 1) (by omega)
 have zt := h.topSz hy hk
 unfold f_ref02_part
 simp only [cmp_lss]
 rw [w64s (by omega), idxB (by omega), bS, W_R (by omega) (by omega) hN, bS, least_eq (hy.mono (show K ≤ K + 64 by omega)) (z2.mono (show 64 ≤ K + 64 by omega)) (by omega) hN, bS, idxB (by omega), bS, W_R (by omega) (by omega) hN, bS,
  show (if y < ((t.Levels[k + 1]! : Int) : Rat) then y else ((t.Levels[k + 1]! : Int) : Rat)) = topQ t y k from rfl, rSubRat_eq (Qf.R zt) (Qf.R z1) (by omega) hN, bS, rSignRat_eq (Qf.R (zt.sub z1)) (by omega) hN, bS, sgnQ_neg]
 have hl : lvQ t k < lvQ t (k + 1) := by
  have := h.la (k + 1) (by omega) (by omega)
  rw [Nat.add_sub_cancel] at this
  exact_mod_cast this
 unfold partQ
 by_cases hd : y ≤ lvQ t k
 ·rw [if_pos hd]
  have ht : topQ t y k = y := by unfold topQ; rw [if_pos (by grind)]
  rw [ht]
  by_cases hs : y - lvQ t k < 0
  ·rw [dT hs, cond_true, W_R (by omega) (by omega) hN]; rfl
  ·rw [dF hs, cond_false, show y - lvQ t k = 0 by grind]
 ·rw [if_neg hd]
  have hs : ¬(topQ t y k - lvQ t k < 0) := by unfold topQ; split <;> grind
  rw [dF hs]; rfl
theorem rArea_eq {N K : Nat} {t : GStation} {y : Rat} (h : Fit t) (hy : Sz K y) (hK : K ≤ 10000) (hN : 2 ^ 64 ≤ N) : f_ref02_Area N t (R y) = some (R (areaQ t y)) := by
 have hn := h.nh; have hn3 := h.n3
 have hb1 : (K + 192) * t.Halves.length ≤ 400000 := Nat.le_trans (Nat.mul_le_mul (show K + 192 ≤ 10200 by omega) (show t.Halves.length ≤ 30 by omega)) (by omega)
 unfold f_ref02_Area
 rw [W_R (by omega) (by omega) hN, bS]
 have := loopN_fold (f := f_ref02_Area_L1 N t (R y)) t.Halves.length (fun i => R (sumQ (arT t y) i)) (R (areaQ t y)) (fun i hi => by
  have hh := h.hb i hi
  have s1 := sumSz' (c := K + 192) (i := i) (fun k hk => h.arSz hy hk) (by omega) hb1
  unfold f_ref02_Area_L1
  simp only [cmp_lss]
  rw [dT (by omega), cond_true, idxB hi, bS, w64 (by omega) (by omega), W_R (by omega) (by omega) hN, bS, rpart_eq h hy hK hi hN, bS, rMulRat_eq (Qf.R (h.hSz hi)) (Qf.R (h.partSz hy hi)) (by omega) hN, bS,
   show ((2 * t.Halves[i]! : Int) : Rat) * partQ t y i = arT t y i from rfl, rAddRat_eq (Qf.R s1) (Qf.R (h.arSz hy hi)) (by omega) hN, bS, w64s (by omega)]; rfl) (by
  unfold f_ref02_Area_L1
  simp only [cmp_lss]
  rw [dF (by omega)]; rfl) N (by omega)
 rw [show loopN (f_ref02_Area_L1 N t (R y)) N (R ((0 : Int) : Rat), 0) = _ from this]; rfl
theorem rRise_eq {N K : Nat} {t : GStation} {y : Rat} (h : Fit t) (hy : Sz K y) (hK : K ≤ 10000) (hN : 2 ^ 64 ≤ N) : f_ref02_Rise N t (R y) = some (R (momQ t y)) := by
  have hn := h.nh; have hn3 := h.n3
  have hb2 : (2 * K + 384) * t.Halves.length ≤ 800000 := Nat.le_trans (Nat.mul_le_mul (show 2 * K + 384 ≤ 20400 by omega) (show t.Halves.length ≤ 30 by omega)) (by omega)
  unfold f_ref02_Rise
  rw [W_R (by omega) (by omega) hN, bS]
  have zh : Sz 128 (((1 : Int) : Rat) / ((2 : Int) : Rat)) := (Sz.i64 (z := 1) (by omega) (by omega)).div (Sz.i64 (z := 2) (by omega) (by omega))
  have := loopN_fold (f := f_ref02_Rise_L1 N t (R y)) t.Halves.length (fun i => R (sumQ (moT t y) i)) (R (momQ t y)) (fun i hi => by
    have hh := h.hb i hi; have hl := h.l0 i (by omega)
    have z1 := h.lSz (k := i) (by omega)
    have s2 := sumSz' (c := 2 * K + 384) (i := i) (fun k hk => h.moSz hy hk) (by omega) hb2
    have zp := h.partSz hy hi
    have e : arT t y i * (lvQ t i + partQ t y i * (((1 : Int) : Rat) / ((2 : Int) : Rat))) = moT t y i := by
      unfold moT
      have h2 := rat_ne (show (2 : Int) ≠ 0 by omega)
      by_cases hd : y ≤ lvQ t i
      · rw [arT_dry hd]; simp [Rat.div_def]
      · have hp : partQ t y i = topQ t y i - lvQ t i := by unfold partQ; rw [if_neg hd]
        rw [hp]
        generalize arT t y i = u
        grind
    unfold f_ref02_Rise_L1
    simp only [cmp_lss]
    rw [dT (by omega), cond_true, rpart_eq h hy hK hi hN, bS, idxB (by omega), bS, W_R (by omega) (by omega) hN, bS, Q_R (by omega) (by omega) (by omega) (by omega) (by omega) hN, bS, rMulRat_eq (Qf.R zp) (Qf.R zh) (by omega) hN, bS,
      rAddRat_eq (Qf.R z1) (Qf.R (zp.mul zh)) (by omega) hN, bS, idxB hi, bS, w64 (by omega) (by omega), W_R (by omega) (by omega) hN, bS, rMulRat_eq (Qf.R (h.hSz hi)) (Qf.R zp) (by omega) hN, bS,
      show ((2 * t.Halves[i]! : Int) : Rat) * partQ t y i = arT t y i from rfl, rMulRat_eq (Qf.R (h.arSz hy hi)) (Qf.R (z1.add (zp.mul zh))) (by omega) hN, bS, e, rAddRat_eq (Qf.R s2) (Qf.R (h.moSz hy hi)) (by omega) hN, bS, w64s (by omega)]; rfl) (by
    unfold f_ref02_Rise_L1
    simp only [cmp_lss]
    rw [dF (by omega)]; rfl) N (by omega)
  rw [show loopN (f_ref02_Rise_L1 N t (R y)) N (R ((0 : Int) : Rat), 0) = _ from this]; rfl
theorem rHalf_eq {N K : Nat} {t : GStation} {y : Rat} (h : Fit t) (hy : Sz K y) (hK : K ≤ 10000) (hN : 2 ^ 64 ≤ N) : f_ref02_Half N t (R y) = some (halfQ t y) := by
  unfold f_ref02_Half
  have hn := h.nh; have hn3 := h.n3
  rw [loop_err (f := f_ref02_Half_L1 N t (R y)) (e := haT t y) (n := t.Halves.length) (fin := Sum.inl ()) (err := fun z => Sum.inr (z - 1)) (fun i hi _ => by
    unfold f_ref02_Half_L1
    simp only [cmp_lss, cmp_leq]
    have hl1 := h.l0 i (by omega); have hl2 := h.l0 (i + 1) (by omega); have hh := h.hb i hi
    have z1 := h.lSz (k := i) (by omega); have z2 := h.lSz (k := i + 1) (by omega)
    rw [dT (by omega), cond_true, idxB (by omega), bS, W_R (by omega) (by omega) hN, bS, rCmpRat_eq (Qf.R z1) (Qf.R hy) (by omega) hN, bS, cmpQ_le, w64s (by omega)]
    by_cases h1 : lvQ t i ≤ y
    · rw [dT h1, cond_true, idxB (by omega), bS, cond_true, W_R (by omega) (by omega) hN, bS, cond_true, rCmpRat_eq (Qf.R hy) (Qf.R z2) (by omega) hN, bS, cmpQ_lt, Bool.true_and]
      by_cases h2 : y < lvQ t (i + 1)
      · have e : haT t y i = t.Halves[i]! + 1 := by unfold haT; rw [if_pos ⟨h1, h2⟩]
        rw [dT h2, e, if_neg (by omega), cond_true, idxB hi, bS, show t.Halves[i]! + 1 - 1 = t.Halves[i]! by omega]
      · have e : haT t y i = 0 := by unfold haT; rw [if_neg (fun h => h2 h.2)]
        rw [dF h2, e]; rfl
    · have e : haT t y i = 0 := by unfold haT; rw [if_neg (fun h => h1 h.1)]
      rw [dF h1, e]; rfl) (fun _ => by
    unfold f_ref02_Half_L1
    simp only [cmp_lss]
    rw [dF (by omega)]; rfl) (by omega), bS]
  unfold errOr halfQ
  split <;> rfl
section
variable {s : GShip} {p q : Rat} {K : Nat} (hK : K ≤ 1000) (hy : ∀ i, i < s.Stations.length → Sz K (yT s p q i))
include hK hy
theorem rVol_eq {N k : Nat} {a : GAttitude} (h : Fits s) (h1 : Qf k a.Sink p) (h2 : Qf k a.Slope q) (hk : k ≤ 1000) (hN : 2 ^ 64 ≤ N) : f_ref02_Volume N s a = some (R (vQ s p q)) := by
 have h6 := h.n6
 unfold f_ref02_Volume
 rw [W_R (by omega) (by omega) hN, bS]
 have := loopN_fold (f := f_ref02_Volume_L1 N s a) s.Stations.length (fun i => R (sumQ (tV s p q) i)) (R (vQ s p q)) (fun i hi => by
  have hf := h.fit i hi
  have x0 := hf.x0; have x1 := hf.x1; have w0 := hf.w0; have w1 := hf.w1
  unfold f_ref02_Volume_L1
  simp only [cmp_lss]
  rw [dT (by omega), cond_true, idxB hi, bS, W_R (by omega) (by omega) hN, bS, rImm_eq h1 h2 (by omega) (by omega) (by omega) hN, bS, show ySet p q s.Stations[i]!.X = yT s p q i from rfl, rArea_eq hf (hy i hi) (by omega) hN, bS,
   show areaQ s.Stations[i]! (yT s p q i) = aT s p q i from rfl, show ((s.Stations[i]!.Width : Int) : Rat) = wT s i from rfl, rMulRat_eq (Qf.R (h.wSz hi)) (Qf.R (h.aSz hK hy hi)) (by omega) hN, bS, show wT s i * aT s p q i = tV s p q i from rfl, rAddRat_eq (Qf.R (h.szV hK hy (by omega))) (Qf.R (h.vSz hK hy hi)) (by omega) hN, bS, w64s (by omega)]; rfl) (by
  unfold f_ref02_Volume_L1
  simp only [cmp_lss]
  rw [dF (by omega)]; rfl) N (by omega)
 rw [show loopN (f_ref02_Volume_L1 N s a) N (R ((0 : Int) : Rat), 0) = _ from this]; rfl
theorem rhyd_loop2 {N k : Nat} {a : GAttitude} (h : Fits s) (h1 : Qf k a.Sink p) (h2 : Qf k a.Slope q) (hk : k ≤ 1000) (hN : 2 ^ 64 ≤ N) :
    loopN (f_ref02_Hydrostatics_L2 N s a) N (R ((0 : Int) : Rat), R ((0 : Int) : Rat), R ((0 : Int) : Rat), R ((0 : Int) : Rat), R ((0 : Int) : Rat), 0) = some (R (xQ s p q), R (zQ' s p q), R (wpQ s p q), R (fQ s p q), R (cQ s p q)) := by
  have h6 := h.n6
  have := loop_errG (f := f_ref02_Hydrostatics_L2 N s a) (e := fun _ => 0) (N := N) (n := s.Stations.length) (fin := (R (xQ s p q), R (zQ' s p q), R (wpQ s p q), R (fQ s p q), R (cQ s p q))) (err := fun _ => (R (xQ s p q), R (zQ' s p q), R (wpQ s p q), R (fQ s p q), R (cQ s p q)))
    (fun i => (R (sumQ (tX s p q) i), R (sumQ (tZ s p q) i), R (sumQ (tA s p q) i), R (sumQ (tF s p q) i), R (sumQ (tC s p q) i), (i : Int))) (fun i hi _ => by
    have hf := h.fit i hi
    have x0 := hf.x0; have x1 := hf.x1; have w0 := hf.w0; have w1 := hf.w1; have hb := hf.half (yT s p q i)
    have hyi := hy i hi
    have zw := h.wSz hi; have zx := h.xSz hi; have za := h.aSz hK hy hi; have zm := h.mSz hK hy hi; have zb := h.bSz (p := p) (q := q) hi
    have hi' : i ≤ s.Stations.length := by omega
    have b1 : 0 ≤ halfQ s.Stations[i]! (yT s p q i) * halfQ s.Stations[i]! (yT s p q i) ∧ halfQ s.Stations[i]! (yT s p q i) * halfQ s.Stations[i]! (yT s p q i) ≤ 10000000000 := by
      have h1 := mulB (a := halfQ s.Stations[i]! (yT s p q i)) (b := halfQ s.Stations[i]! (yT s p q i)) (A := 100000) (B := 100000) (by omega) (by omega)
      have h2 := Int.mul_nonneg hb.1 hb.1
      omega
    have b2 : 0 ≤ halfQ s.Stations[i]! (yT s p q i) * s.Stations[i]!.Width ∧ halfQ s.Stations[i]! (yT s p q i) * s.Stations[i]!.Width ≤ 10000000000 := by
      have h1 := mulB (a := halfQ s.Stations[i]! (yT s p q i)) (b := s.Stations[i]!.Width) (A := 100000) (B := 100000) (by omega) (by omega)
      have h2 := Int.mul_nonneg hb.1 (show 0 ≤ s.Stations[i]!.Width by omega)
      omega
    have b3 : 2 * halfQ s.Stations[i]! (yT s p q i) * s.Stations[i]!.Width = 2 * (halfQ s.Stations[i]! (yT s p q i) * s.Stations[i]!.Width) := Int.mul_assoc _ _ _
    have e1 : ((2 * halfQ s.Stations[i]! (yT s p q i) * s.Stations[i]!.Width : Int) : Rat) = tA s p q i := by unfold tA bT wT; rw [Rat.intCast_mul, Rat.intCast_mul]
    have z23 : Sz 128 (((2 : Int) : Rat) / ((3 : Int) : Rat)) := (Sz.i64 (z := 2) (by omega) (by omega)).div (Sz.i64 (z := 3) (by omega) (by omega))
    have zbb : Sz 64 ((halfQ s.Stations[i]! (yT s p q i) * halfQ s.Stations[i]! (yT s p q i) : Int) : Rat) := Sz.i64 (by omega) (by omega)
    have zbw : Sz 64 ((halfQ s.Stations[i]! (yT s p q i) * s.Stations[i]!.Width : Int) : Rat) := Sz.i64 (by omega) (by omega)
    have e2 : ((halfQ s.Stations[i]! (yT s p q i) * halfQ s.Stations[i]! (yT s p q i) : Int) : Rat) * ((halfQ s.Stations[i]! (yT s p q i) * s.Stations[i]!.Width : Int) : Rat) * (((2 : Int) : Rat) / ((3 : Int) : Rat)) = tC s p q i := by
      unfold tC bT wT
      rw [Rat.intCast_mul, Rat.intCast_mul]
      have := rat_ne (show (3 : Int) ≠ 0 by omega)
      grind
    unfold f_ref02_Hydrostatics_L2
    simp only [cmp_lss]
    rw [dT (by omega), cond_true, idxB hi, bS, rImm_eq h1 h2 (by omega) (by omega) (by omega) hN, bS, show ySet p q s.Stations[i]!.X = yT s p q i from rfl, W_R (by omega) (by omega) hN, bS, rArea_eq hf hyi (by omega) hN, bS,
      show areaQ s.Stations[i]! (yT s p q i) = aT s p q i from rfl, show ((s.Stations[i]!.Width : Int) : Rat) = wT s i from rfl, rMulRat_eq (Qf.R zw) (Qf.R za) (by omega) hN, bS, show wT s i * aT s p q i = tV s p q i from rfl, W_R (by omega) (by omega) hN, bS,
      show ((s.Stations[i]!.X : Int) : Rat) = xT s i from rfl, rMulRat_eq (Qf.R (h.vSz hK hy hi)) (Qf.R zx) (by omega) hN, bS, show tV s p q i * xT s i = tX s p q i from rfl, rAddRat_eq (Qf.R (h.szX hK hy hi')) (Qf.R (h.xxSz hK hy hi)) (by omega) hN, bS, bS,
      rRise_eq hf hyi (by omega) hN, bS, show momQ s.Stations[i]! (yT s p q i) = mT s p q i from rfl, rMulRat_eq (Qf.R zw) (Qf.R zm) (by omega) hN, bS, show wT s i * mT s p q i = tZ s p q i from rfl, rAddRat_eq (Qf.R (h.szZ hK hy hi')) (Qf.R (h.zSz hK hy hi)) (by omega) hN, bS,
      rHalf_eq hf hyi (by omega) hN, bS, w64 (n := 2 * halfQ s.Stations[i]! (yT s p q i)) (by omega) (by omega), w64 (n := 2 * halfQ s.Stations[i]! (yT s p q i) * s.Stations[i]!.Width) (by omega) (by omega), W_R (by omega) (by omega) hN, bS, e1,
      rAddRat_eq (Qf.R (h.szA hi')) (Qf.R (h.arSz' hi)) (by omega) hN, bS, bS, rMulRat_eq (Qf.R (h.arSz' hi)) (Qf.R zx) (by omega) hN, bS, show tA s p q i * xT s i = tF s p q i from rfl, rAddRat_eq (Qf.R (h.szF hi')) (Qf.R (h.fSz hi)) (by omega) hN, bS,
      w64 (by omega) (by omega), W_R (by omega) (by omega) hN, bS, w64 (by omega) (by omega), W_R (by omega) (by omega) hN, bS, rMulRat_eq (Qf.R zbb) (Qf.R zbw) (by omega) hN, bS, Q_R (by omega) (by omega) (by omega) (by omega) (by omega) hN, bS, rMulRat_eq (Qf.R (zbb.mul zbw)) (Qf.R z23) (by omega) hN, bS, e2,
      rAddRat_eq (Qf.R (h.szC hi')) (Qf.R (h.cSz hi)) (by omega) hN, bS, w64s (by omega)]
    rfl) (fun _ => by
    unfold f_ref02_Hydrostatics_L2
    simp only [cmp_lss]
    rw [dF (by omega)]; rfl) (by omega)
  rw [firstErr_nil] at this
  exact this
theorem rhyd_loop1 {N k : Nat} {a : GAttitude} {o : GHydro} {c : Rat} (h : Fits s) (h1 : Qf k a.Sink p) (h2 : Qf k a.Slope q) (hk : k ≤ 1000) (hN : 2 ^ 64 ≤ N) (ho : o.Float = R c) (hc : Sz 3000 c) (hl : o.Long = R 0) :
  loopN (f_ref02_Hydrostatics_L1 N s a) N (o, 0) = some { o with Long := R (sumQ (fun i => tA s p q i * ((xT s i - c) * (xT s i - c))) s.Stations.length) } := by
 have h6 := h.n6
 have zt : ∀ i, i < s.Stations.length → Sz 6320 (tA s p q i * ((xT s i - c) * (xT s i - c))) := fun i hi => ((h.arSz' hi).mul (((h.xSz hi).sub hc).mul ((h.xSz hi).sub hc))).mono (by omega)
 have := loopN_fold (f := f_ref02_Hydrostatics_L1 N s a) s.Stations.length (fun i => { o with Long := R (sumQ (fun i => tA s p q i * ((xT s i - c) * (xT s i - c))) i) }) ({ o with Long := R (sumQ (fun i => tA s p q i * ((xT s i - c) * (xT s i - c))) s.Stations.length) } : GHydro) (fun i hi => by
  have hf := h.fit i hi
  have x0 := hf.x0; have x1 := hf.x1; have w0 := hf.w0; have w1 := hf.w1; have hb := hf.half (yT s p q i)
  have hyi := hy i hi
  have zx := h.xSz hi
  have b2 : 0 ≤ halfQ s.Stations[i]! (yT s p q i) * s.Stations[i]!.Width ∧ halfQ s.Stations[i]! (yT s p q i) * s.Stations[i]!.Width ≤ 10000000000 := by
   have h1 := mulB (a := halfQ s.Stations[i]! (yT s p q i)) (b := s.Stations[i]!.Width) (A := 100000) (B := 100000) (by omega) (by omega)
   have h2 := Int.mul_nonneg hb.1 (show 0 ≤ s.Stations[i]!.Width by omega)
   omega
  have b3 : 2 * halfQ s.Stations[i]! (yT s p q i) * s.Stations[i]!.Width = 2 * (halfQ s.Stations[i]! (yT s p q i) * s.Stations[i]!.Width) := Int.mul_assoc _ _ _
  have e1 : ((2 * halfQ s.Stations[i]! (yT s p q i) * s.Stations[i]!.Width : Int) : Rat) = tA s p q i := by unfold tA bT wT; rw [Rat.intCast_mul, Rat.intCast_mul]
  have sz := sumSz' (m := 40000) (i := i) zt (by omega) (Nat.le_trans (Nat.mul_le_mul_left _ h.n6) (by omega))
  unfold f_ref02_Hydrostatics_L1
  simp only [cmp_lss]
  rw [dT (by omega), cond_true, idxB hi, bS, W_R (by omega) (by omega) hN, bS, ho, show ((s.Stations[i]!.X : Int) : Rat) = xT s i from rfl, rSubRat_eq (Qf.R zx) (Qf.R hc) (by omega) hN, bS, rImm_eq h1 h2 (by omega) (by omega) (by omega) hN, bS,
   show ySet p q s.Stations[i]!.X = yT s p q i from rfl, rHalf_eq hf hyi (by omega) hN, bS, w64 (n := 2 * halfQ s.Stations[i]! (yT s p q i)) (by omega) (by omega), w64 (n := 2 * halfQ s.Stations[i]! (yT s p q i) * s.Stations[i]!.Width) (by omega) (by omega), W_R (by omega) (by omega) hN, bS, e1,
   rMulRat_eq (Qf.R (zx.sub hc)) (Qf.R (zx.sub hc)) (by omega) hN, bS, rMulRat_eq (Qf.R (h.arSz' hi)) (Qf.R ((zx.sub hc).mul (zx.sub hc))) (by omega) hN, bS, rAddRat_eq (Qf.R sz) (Qf.R (zt i hi)) (by omega) hN, bS, w64s (by omega)]
  rfl) (by
  unfold f_ref02_Hydrostatics_L1
  simp only [cmp_lss]
  rw [dF (by omega)]; rfl) N (by omega)
 rw [← this]
 congr 2
 show o = { o with Long := R 0 }
 rw [← hl]
end
theorem long_id {s : GShip} {p q c : Rat} : ∀ n : Nat, sumQ (fun i => tA s p q i * ((xT s i - c) * (xT s i - c))) n = sumQ (tL s p q) n - c * sumQ (tF s p q) n - c * sumQ (tF s p q) n + c * c * sumQ (tA s p q) n := by
 intro n
 induction n with
 | zero => simp only [sumQ]; grind
 | succ n ih => simp only [sumQ]; rw [ih]; unfold tL tF; grind
theorem rHyd_eq {N k K : Nat} {s : GShip} {p q : Rat} {a : GAttitude} {d : Int} (h : Fits s) (h1 : Qf k a.Sink p) (h2 : Qf k a.Slope q) (hk : k ≤ 1000) (hK : K ≤ 1000) (hy : ∀ i, i < s.Stations.length → Sz K (yT s p q i)) (g0 : -9223372036854775807 ≤ d) (g1 : d ≤ 9223372036854775807) (hN : 2 ^ 64 ≤ N) :
    f_ref02_Hydrostatics N s a d = some (if vQ s p q = 0 then (zeroH, false) else (hydroQ s p q d, true)) := by
  have sV : Sz 55000 (vQ s p q) := h.szV hK hy (Nat.le_refl _)
  have sX : Sz 55000 (xQ s p q) := h.szX hK hy (Nat.le_refl _)
  have sZ : Sz 103000 (zQ' s p q) := h.szZ hK hy (Nat.le_refl _)
  have sA : Sz 1200 (wpQ s p q) := h.szA (Nat.le_refl _)
  have sF : Sz 1600 (fQ s p q) := h.szF (Nat.le_refl _)
  have sC : Sz 2400 (cQ s p q) := h.szC (Nat.le_refl _)
  have W0 : f_base_W N 0 = some (R ((0 : Int) : Rat)) := W_R (by omega) (by omega) hN
  unfold f_ref02_Hydrostatics
  rw [rVol_eq hK hy h h1 h2 hk hN, bS, rSignRat_eq (Qf.R sV) (by omega) hN, bS, cmp_eql, sgnQ_z]
  by_cases hV : vQ s p q = 0
  · rw [dT hV, cond_true, if_pos hV]; rfl
  · rw [dF hV, cond_false, if_neg hV, W0, bS, bS, bS, bS, bS, rhyd_loop2 hK hy h h1 h2 hk hN, bS, rMass_eq (Qf.R sV) sV (by omega) g0 g1 hN, bS,
      rQuoRat_eq (Qf.R sX) (Qf.R sV) (by omega) hV hN, bS, rQuoRat_eq (Qf.R sZ) (Qf.R sV) (by omega) hV hN, bS, bS, bS]
    dsimp only
    rw [rSignRat_eq (Qf.R sA) (by omega) hN, bS, cmp_neq, sgnQ_z]
    have szf : Sz 3000 (floQ s p q) := by
      unfold floQ
      split
      · exact Sz.zero.mono (by omega)
      · exact (sF.div sA).mono (by omega)
    have hfl : (bif !decide (wpQ s p q = 0) then ((f_ref01_QuoRat N (R (fQ s p q)) (R (wpQ s p q))).bind fun v42 => some (⟨R (vQ s p q), R (kgQ (vQ s p q) d), R (xQ s p q / vQ s p q), R (zQ' s p q / vQ s p q), R (wpQ s p q), v42, R (cQ s p q), R ((0 : Int) : Rat), ⟨⟨false, []⟩, ⟨false, []⟩⟩⟩ : GHydro))
        else some (⟨R (vQ s p q), R (kgQ (vQ s p q) d), R (xQ s p q / vQ s p q), R (zQ' s p q / vQ s p q), R (wpQ s p q), R ((0 : Int) : Rat), R (cQ s p q), R ((0 : Int) : Rat), ⟨⟨false, []⟩, ⟨false, []⟩⟩⟩ : GHydro)) =
        some (⟨R (vQ s p q), R (kgQ (vQ s p q) d), R (xQ s p q / vQ s p q), R (zQ' s p q / vQ s p q), R (wpQ s p q), R (floQ s p q), R (cQ s p q), R ((0 : Int) : Rat), ⟨⟨false, []⟩, ⟨false, []⟩⟩⟩ : GHydro) := by
      unfold floQ
      by_cases hA : wpQ s p q = 0
      · rw [dT hA, if_pos hA]; rfl
      · rw [dF hA, if_neg hA, Bool.not_false, cond_true, rQuoRat_eq (Qf.R sF) (Qf.R sA) (by omega) hA hN]; rfl
    rw [show (bif !decide (wpQ s p q = 0) then _ else _) = _ from hfl, bS, rhyd_loop1 hK hy h h1 h2 hk hN rfl szf rfl, bS, rQuoRat_eq (Qf.R sC) (Qf.R sV) (by omega) hV hN, bS]
    dsimp only
    rw [rAddRat_eq (Qf.R (sZ.div sV)) (Qf.R (sC.div sV)) (by omega) hN, bS]
    have hL : sumQ (fun i => tA s p q i * ((xT s i - floQ s p q) * (xT s i - floQ s p q))) s.Stations.length = lonQ s p q := by
      rw [long_id]
      unfold lonQ
      rw [show sumQ (tL s p q) s.Stations.length = lQ s p q from rfl, show sumQ (tF s p q) s.Stations.length = fQ s p q from rfl, show sumQ (tA s p q) s.Stations.length = wpQ s p q from rfl]
      by_cases hA : wpQ s p q = 0
      · rw [if_pos hA]
        have hz : ∀ k, k < s.Stations.length → tA s p q k = 0 := by
          refine sumQ_zero (fun k hk => ?_) hA
          have hf := h.fit k hk
          have h0 : (0 : Rat) ≤ wT s k := by have := hf.w0; unfold wT; exact_mod_cast (show (0 : Int) ≤ s.Stations[k]!.Width by omega)
          have h1 : (0 : Rat) ≤ bT s p q k := by have := hf.half (yT s p q k); unfold bT; exact_mod_cast this.1
          have h2 : (0 : Rat) ≤ ((2 : Int) : Rat) := by decide
          unfold tA
          exact Rat.mul_nonneg (Rat.mul_nonneg h2 h1) h0
        have hl0 : lQ s p q = 0 := by unfold lQ; rw [sumQ_const (i := 0) (by omega) (fun k _ hk => by unfold tL; rw [hz k hk]; grind)]; rfl
        have hf0 : floQ s p q = 0 := by unfold floQ; rw [if_pos hA]
        rw [hl0, hf0, hA]; grind
      · rw [if_neg hA]
        have hf : floQ s p q * wpQ s p q = fQ s p q := by unfold floQ; rw [if_neg hA]; grind
        rw [← hf]; grind
    rw [hL]; rfl
end Go.KB
namespace Go.KB
set_option linter.unusedVariables false
set_option maxRecDepth 100000
theorem bsShort_eq {N : Nat} {x : GRat} (hx : x.ok) : ∃ b, f_base_Short N x 3 = some b ∧ (b = true → Qf 32 x (rv x)) := by
 refine ⟨_, rfl, fun h => ?_⟩
 simp only [cmp_leq, Bool.and_eq_true, decide_eq_true_eq] at h
 exact Qf.raw hx (by omega) (by omega)
theorem att_eq {N : Nat} {a : GAttitude} (ha : a.ok) : ∃ b, f_law02_short N a = some b ∧ (b = true → Qf 32 a.Sink (rv a.Sink) ∧ Qf 32 a.Slope (rv a.Slope)) := by
 obtain ⟨h1, h2, _⟩ := ha
 obtain ⟨b1, e1, k1⟩ := bsShort_eq (N := N) h1
 obtain ⟨b2, e2, k2⟩ := bsShort_eq (N := N) h2
 unfold f_law02_short
 rw [e1, bS]
 cases b1 with
 | false => exact ⟨false, rfl, fun h => by cases h⟩
 | true =>
  rw [cond_true, e2]
  exact ⟨b2, by cases b2 <;> rfl, fun h => ⟨k1 rfl, k2 h⟩⟩
def densErr (d : Int) : Int := if inR 900 1100 d = true then 0 else 2
theorem dens_eq {N : Nat} {d : Int} : f_hull_checkDensity N d = some (densErr d) := by
 unfold f_hull_checkDensity densErr
 rw [between_eq, bS]
 cases inR 900 1100 d <;> rfl
theorem rDens_eq {N : Nat} {d : Int} : f_ref02_Density N d = some (densErr d) := by
 unfold f_ref02_Density densErr
 rw [rwithin_eq, bS]
 cases inR 900 1100 d <;> rfl
theorem dens_ok {d : Int} (h : densErr d = 0) : 900 ≤ d ∧ d ≤ 1100 := by
 unfold densErr at h
 split at h
 ·rename_i hd; rwa [inR_iff] at hd
 ·cases h
def bothE (s : GShip) (d : Int) : Int := if shpErr s = 0 then densErr d else shpErr s
theorem both_eq {N : Nat} {s : GShip} {d : Int} (ht : Tame s) (hN : 2 ^ 64 ≤ N) : f_law02_both N s d = some (bothE s d) := by
 unfold f_law02_both bothE
 rw [rCheck_eq ht hN, bS, cmp_neq, rDens_eq, bS]
 by_cases h : shpErr s = 0
 ·rw [dT h, if_pos h]; rfl
 ·rw [dF h, if_neg h]; rfl
theorem floated_eq {N : Nat} {s : GShip} {d : Int} (ht : Tame s) (hN : 2 ^ 64 ≤ N) : f_hull_floated N s d = some (bothE s d) := by
 unfold f_hull_floated bothE
 rw [hCheck_eq ht hN, bS, cmp_neq, dens_eq, bS]
 by_cases h : shpErr s = 0
 ·rw [dT h, if_pos h]; rfl
 ·rw [dF h, if_neg h]; rfl
theorem both_ok {s : GShip} {d : Int} (h : bothE s d = 0) : shpErr s = 0 ∧ densErr d = 0 := by
 unfold bothE at h
 split at h
 ·rename_i hs; exact ⟨hs, h⟩
 ·rename_i hs; exact absurd h hs
def Len (x : GRat) : Prop := x.Num.Limbs.length < 1000000 ∧ x.Den.Limbs.length < 1000000
theorem Len.R {k : Nat} {q : Rat} (h : Sz k q) (hk : k ≤ 4000000) : Len (KB.R q) := R_len h hk
theorem Len.zero : Len zeroR := ⟨by decide, by decide⟩
theorem same_refl {N : Nat} {x : GRat} (h : Len x) (hN : 2 ^ 64 ≤ N) : f_base_SameRat N x x = some true := by rw [SameRat_eq h.1 h.2 hN, sameR_refl]
theorem sameRats_refl {N : Nat} {l : List GRat} (h : ∀ i (hi : i < l.length), Len l[i]) (hl : l.length < 1000000) (hN : 2 ^ 64 ≤ N) : f_base_SameRats N l l = some true := by
 unfold f_base_SameRats
 have := loop_err (f := f_base_SameRats_L1 N l l) (e := fun _ => 0) (n := l.length) (N := N) (fin := Sum.inl ()) (err := fun z => Sum.inr false) (fun i hi _ => by
  unfold f_base_SameRats_L1
  simp only [cmp_lss]
  rw [dT (by omega), cond_true, idx_nat hi, bS, bS, same_refl (h i hi) hN, bS, w64s (by omega)]; rfl) (fun _ => by
  unfold f_base_SameRats_L1
  simp only [cmp_lss]
  rw [dF (by omega)]; rfl) (by omega)
 rw [firstErr_nil] at this
 rw [cmp_neq, dT rfl, Bool.not_true, cond_false, this]; rfl
structure LenH (h : GHydro) : Prop where
 a1 : Len h.Volume
 a2 : Len h.Displacement
 a3 : Len h.X
 a4 : Len h.Z
 a5 : Len h.Area
 a6 : Len h.Float
 a7 : Len h.Cross
 a8 : Len h.Long
 a9 : Len h.Meta
theorem LenH.zero : LenH zeroH := ⟨Len.zero, Len.zero, Len.zero, Len.zero, Len.zero, Len.zero, Len.zero, Len.zero, Len.zero⟩
theorem sameH_refl {N : Nat} {h : GHydro} (hl : LenH h) (hN : 2 ^ 64 ≤ N) : f_law02_SameHydro N h h = some true := by
 unfold f_law02_SameHydro
 rw [sameRats_refl (fun i hi => by
  match i, hi with
  | 0, _ => exact hl.a1
  | 1, _ => exact hl.a2
  | 2, _ => exact hl.a3
  | 3, _ => exact hl.a4
  | 4, _ => exact hl.a5
  | 5, _ => exact hl.a6
  | 6, _ => exact hl.a7
  | 7, _ => exact hl.a8
  | 8, _ => exact hl.a9
  | n + 9, hi => simp at hi; omega) (by simp) hN]; rfl
section
variable {s : GShip} {p q : Rat} {K : Nat} (hK : K ≤ 1000) (hy : ∀ i, i < s.Stations.length → Sz K (yT s p q i))
include hK hy
theorem hydro_sz (h : Fits s) {d : Int} (g0 : -9223372036854775808 ≤ d) (g1 : d ≤ 9223372036854775807) :
  Sz 56000 (kgQ (vQ s p q) d) ∧ Sz 220000 (zQ' s p q / vQ s p q + cQ s p q / vQ s p q) ∧ Sz 3000 (floQ s p q) ∧ Sz 20000 (lonQ s p q) := by
 have sV : Sz 55000 (vQ s p q) := h.szV hK hy (Nat.le_refl _)
 have sZ : Sz 103000 (zQ' s p q) := h.szZ hK hy (Nat.le_refl _)
 have sA : Sz 1200 (wpQ s p q) := h.szA (Nat.le_refl _)
 have sF : Sz 1600 (fQ s p q) := h.szF (Nat.le_refl _)
 have sC : Sz 2400 (cQ s p q) := h.szC (Nat.le_refl _)
 have sL : Sz 2000 (lQ s p q) := h.szL (Nat.le_refl _)
 have szf : Sz 3000 (floQ s p q) := by
  unfold floQ
  split
  ·exact Sz.zero.mono (by omega)
  ·exact (sF.div sA).mono (by omega)
 refine ⟨((sV.mul (Sz.i64 g0 g1)).div (Sz.i64 (z := 1000000000) (by omega) (by omega))).mono (by omega), ((sZ.div sV).add (sC.div sV)).mono (by omega), szf, ?_⟩
 unfold lonQ
 split
 ·exact Sz.zero.mono (by omega)
 ·exact (sL.sub ((sA.mul szf).mul szf)).mono (by omega)
theorem hydro_len (h : Fits s) {d : Int} (g0 : -9223372036854775808 ≤ d) (g1 : d ≤ 9223372036854775807) : LenH (hydroQ s p q d) := by
 have sV : Sz 55000 (vQ s p q) := h.szV hK hy (Nat.le_refl _)
 have sX : Sz 55000 (xQ s p q) := h.szX hK hy (Nat.le_refl _)
 have sZ : Sz 103000 (zQ' s p q) := h.szZ hK hy (Nat.le_refl _)
 have sA : Sz 1200 (wpQ s p q) := h.szA (Nat.le_refl _)
 have sC : Sz 2400 (cQ s p q) := h.szC (Nat.le_refl _)
 obtain ⟨s1, s2, s3, s4⟩ := hydro_sz hK hy h g0 g1
 exact ⟨Len.R sV (by omega), Len.R s1 (by omega), Len.R (sX.div sV) (by omega), Len.R (sZ.div sV) (by omega), Len.R sA (by omega), Len.R s3 (by omega), Len.R sC (by omega), Len.R s4 (by omega), Len.R s2 (by omega)⟩
end
theorem Fits.y32 {s : GShip} {p q : Rat} {a : GAttitude} {k : Nat} (h : Fits s) (h1 : Qf k a.Sink p) (h2 : Qf k a.Slope q) : ∀ i, i < s.Stations.length → Sz (2 * k + 98) (yT s p q i) := fun i hi => by
 have := (h.fit i hi).x0; have := (h.fit i hi).x1
 exact ySz h1 h2 (by omega) (by omega)
theorem Hyd_eq {N k : Nat} {s : GShip} {p q : Rat} {a : GAttitude} {d : Int} (ht : Tame s) (h1 : Qf k a.Sink p) (h2 : Qf k a.Slope q) (hk : k ≤ 400) (hN : 2 ^ 64 ≤ N) :
  f_hull_Hydrostatics N s a d = some (if bothE s d = 0 then (if vQ s p q = 0 then (zeroH, 29) else (hydroQ s p q d, 0)) else (zeroH, bothE s d)) := by
 unfold f_hull_Hydrostatics
 rw [floated_eq ht hN, bS, cmp_neq]
 by_cases hb : bothE s d = 0
 ·obtain ⟨hs, hd⟩ := both_ok hb
  have hf := Fits.of ht hs
  have hd := dens_ok hd
  rw [dT hb, if_pos hb, Bool.not_true, cond_false, hyd_eq hf h1 h2 (by omega) (K := 2 * k + 98) (by omega) (hf.y32 h1 h2) (by omega) (by omega) hN, bS]
  by_cases hV : vQ s p q = 0
  ·rw [if_pos hV, if_pos hV]; rfl
  ·rw [if_neg hV, if_neg hV]; rfl
 ·rw [dF hb, if_neg hb]; rfl
end Go.KB
