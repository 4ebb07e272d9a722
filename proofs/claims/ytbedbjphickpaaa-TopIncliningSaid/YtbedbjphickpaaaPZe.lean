/- Plain laws: what is immersed of a station, of the program. Plain laws: the hydrostatics that the program computes. Plain laws: errors of densities, the answer of Hydrostatics. Plain laws: attitudes with short numbers. No condition. -/
import Derived.Test.YtbedbjphickpaaaPZd
import Derived.Test.YtbedbjphickpaaaPZb
namespace Go.KB
set_option linter.unusedVariables false
set_option maxRecDepth 100000
def sumQ (f : Nat → Rat) : Nat → Rat
 | 0 => 0
 | n + 1 => sumQ f n + f n
theorem sumQ_congr {f g : Nat → Rat} : ∀ {n : Nat}, (∀ k, k < n → f k = g k) → sumQ f n = sumQ g n := by
 intro n
 induction n with
 | zero => intro _; rfl
 | succ n ih => intro h; rw [sumQ, sumQ, ih (fun k hk => h k (by omega)), h n (by omega)]
theorem sumQ_const {f : Nat → Rat} {i : Nat} : ∀ {n : Nat}, i ≤ n → (∀ k, i ≤ k → k < n → f k = 0) → sumQ f n = sumQ f i := by
  intro n
  induction n with
  | zero => intro h _; obtain rfl : i = 0 := by omega
            rfl
  | succ n ih =>
    intro h hz
    rcases Nat.eq_or_lt_of_le h with rfl | h
    · rfl
    · rw [sumQ, ih (by omega) (fun k h1 h2 => hz k h1 (by omega)), hz n (by omega) (by omega), Rat.add_zero]
theorem sumSz {f : Nat → Rat} {c : Nat} : ∀ {n : Nat}, (∀ k, k < n → Sz c (f k)) → Sz (c * n) (sumQ f n) := by
 intro n
 induction n with
 | zero => intro _; exact Sz.zero
 | succ n ih => intro h; exact ((ih (fun k hk => h k (by omega))).add (h n (by omega))).mono (by rw [Nat.mul_succ]; exact Nat.le_refl _)
theorem sumSz' {f : Nat → Rat} {c n i m : Nat} (h : ∀ k, k < n → Sz c (f k)) (hi : i ≤ n) (hm : c * n ≤ m) : Sz m (sumQ f i) :=
 (sumSz (fun k hk => h k (by omega))).mono (Nat.le_trans (Nat.mul_le_mul_left c hi) hm)
structure Fit (t : GStation) : Prop where
 x0 : -1000000 ≤ t.X
 x1 : t.X ≤ 1000000
 w0 : 1 ≤ t.Width
 w1 : t.Width ≤ 100000
 n2 : 2 ≤ t.Levels.length
 n3 : t.Levels.length ≤ 30
 nh : t.Halves.length + 1 = t.Levels.length
 l0 : ∀ i, i < t.Levels.length → 0 ≤ t.Levels[i]! ∧ t.Levels[i]! ≤ 100000
 la : ∀ i, 0 < i → i < t.Levels.length → t.Levels[i - 1]! < t.Levels[i]!
 hb : ∀ i, i < t.Halves.length → 0 ≤ t.Halves[i]! ∧ t.Halves[i]! ≤ 100000
theorem inR_iff {a b n : Int} : inR a b n = true ↔ a ≤ n ∧ n ≤ b := by unfold inR; simp
theorem Fit.of {t : GStation} (h1 : placeErr t = 0) (h2 : formErr t = 0) : Fit t := by
  unfold placeErr at h1
  split at h1
  · rename_i hp
    rw [inR_iff, inR_iff] at hp
    unfold formErr at h2
    split at h2
    · cases h2
    · rename_i hn
      split at h2
      · rename_i hl
        have h3 : ∀ i, i < t.Levels.length → (0 ≤ t.Levels[i]! ∧ t.Levels[i]! ≤ 100000) ∧ ¬(0 < i ∧ t.Levels[i]! ≤ t.Levels[i - 1]!) := fun i hi => by
          have := firstErr_zero hl i (by omega) (by omega)
          unfold levE at this
          split at this
          · rename_i h4
            rw [inR_iff] at h4
            split at this
            · cases this
            · rename_i h5; exact ⟨h4, h5⟩
          · cases this
        refine ⟨by omega, by omega, by omega, by omega, by omega, by omega, by omega, fun i hi => (h3 i hi).1, fun i h0 hi => ?_, fun i hi => ?_⟩
        · have := (h3 i hi).2
          omega
        · have := firstErr_zero h2 i (by omega) (by omega)
          unfold halE at this
          split at this
          · rename_i h4; rwa [inR_iff] at h4
          · cases this
      · rename_i hl; exact absurd h2 hl
  · cases h1
theorem Fit.asc {t : GStation} (h : Fit t) {i : Nat} : ∀ {j : Nat}, i ≤ j → j < t.Levels.length → t.Levels[i]! ≤ t.Levels[j]! := by
  intro j
  induction j with
  | zero => intro h1 _; obtain rfl : i = 0 := by omega
            omega
  | succ j ih =>
    intro h1 h2
    rcases Nat.eq_or_lt_of_le h1 with rfl | h1
    · omega
    · have h3 := ih (by omega) (by omega)
      have h4 := h.la (j + 1) (by omega) h2
      rw [Nat.add_sub_cancel] at h4
      omega
abbrev lvQ (t : GStation) (k : Nat) : Rat := (t.Levels[k]! : Int)
def topQ (t : GStation) (y : Rat) (k : Nat) : Rat := if y < lvQ t (k + 1) then y else lvQ t (k + 1)
def partQ (t : GStation) (y : Rat) (k : Nat) : Rat := if y ≤ lvQ t k then 0 else topQ t y k - lvQ t k
def arT (t : GStation) (y : Rat) (k : Nat) : Rat := ((2 * t.Halves[k]! : Int) : Rat) * partQ t y k
def moT (t : GStation) (y : Rat) (k : Nat) : Rat := arT t y k * (lvQ t k + topQ t y k) / ((2 : Int) : Rat)
def areaQ (t : GStation) (y : Rat) : Rat := sumQ (arT t y) t.Halves.length
def momQ (t : GStation) (y : Rat) : Rat := sumQ (moT t y) t.Halves.length
theorem Fit.lSz {t : GStation} (h : Fit t) {k : Nat} (hk : k < t.Levels.length) : Sz 64 (lvQ t k) := by have := h.l0 k hk; exact Sz.i64 (by omega) (by omega)
theorem Fit.topSz {t : GStation} {y : Rat} {K k : Nat} (h : Fit t) (hy : Sz K y) (hk : k < t.Halves.length) : Sz (K + 64) (topQ t y k) := by
 unfold topQ
 have := h.nh
 split
 ·exact hy.mono (by omega)
 ·exact (h.lSz (by omega)).mono (by omega)
theorem Fit.partSz {t : GStation} {y : Rat} {K k : Nat} (h : Fit t) (hy : Sz K y) (hk : k < t.Halves.length) : Sz (K + 128) (partQ t y k) := by
 unfold partQ
 have := h.nh
 split
 ·exact Sz.zero.mono (by omega)
 ·exact ((h.topSz hy hk).sub (h.lSz (by omega))).mono (by omega)
theorem Fit.hSz {t : GStation} {k : Nat} (h : Fit t) (hk : k < t.Halves.length) : Sz 64 ((2 * t.Halves[k]! : Int) : Rat) := by have := h.hb k hk; exact Sz.i64 (by omega) (by omega)
theorem Fit.arSz {t : GStation} {y : Rat} {K k : Nat} (h : Fit t) (hy : Sz K y) (hk : k < t.Halves.length) : Sz (K + 192) (arT t y k) := ((h.hSz hk).mul (h.partSz hy hk)).mono (by omega)
theorem Fit.moSz {t : GStation} {y : Rat} {K k : Nat} (h : Fit t) (hy : Sz K y) (hk : k < t.Halves.length) : Sz (2 * K + 384) (moT t y k) := by
 have := h.nh
 exact (((h.arSz hy hk).mul ((h.lSz (k := k) (by omega)).add (h.topSz hy hk))).div (Sz.i64 (z := 2) (by omega) (by omega))).mono (by omega)
theorem Fit.dry {t : GStation} {y : Rat} {i k : Nat} (h : Fit t) (hi : y ≤ lvQ t i) (h1 : i ≤ k) (hk : k < t.Halves.length) : y ≤ lvQ t k := by
 have := h.nh
 have := h.asc h1 (by omega)
 have h2 : lvQ t i ≤ lvQ t k := by exact_mod_cast this
 grind
theorem arT_dry {t : GStation} {y : Rat} {k : Nat} (h : y ≤ lvQ t k) : arT t y k = 0 := by unfold arT partQ; rw [if_pos h]; grind
theorem moT_dry {t : GStation} {y : Rat} {k : Nat} (h : y ≤ lvQ t k) : moT t y k = 0 := by unfold moT; rw [arT_dry h]; simp [Rat.div_def]
theorem immersed_eq {N K : Nat} {t : GStation} {y : Rat} (h : Fit t) (hy : Sz K y) (hK : K ≤ 10000) (hN : 2 ^ 64 ≤ N) : f_hull_immersed N t (R y) = some ⟨R (areaQ t y), R (momQ t y)⟩ := by
  unfold f_hull_immersed
  have hn := h.nh; have hn3 := h.n3
  rw [whole_eq (by omega) (by omega) hN, bS, bS]
  have hb1 : (K + 192) * t.Halves.length ≤ 400000 := Nat.le_trans (Nat.mul_le_mul (show K + 192 ≤ 10200 by omega) (show t.Halves.length ≤ 30 by omega)) (by omega)
  have hb2 : (2 * K + 384) * t.Halves.length ≤ 800000 := Nat.le_trans (Nat.mul_le_mul (show 2 * K + 384 ≤ 20400 by omega) (show t.Halves.length ≤ 30 by omega)) (by omega)
  have := loopN_eq (f := f_hull_immersed_L1 N t (R y)) (fun s => ∃ i : Nat, s = ((⟨R (sumQ (arT t y) i), R (sumQ (moT t y) i)⟩ : Ghull_section), (i : Int)) ∧ i ≤ t.Halves.length) (fun s => t.Halves.length - s.2.toNat) (⟨R (areaQ t y), R (momQ t y)⟩ : Ghull_section) (by
    rintro s ⟨i, rfl, hi⟩
    unfold f_hull_immersed_L1
    simp only [cmp_lss, cmp_leq]
    by_cases hlt : i < t.Halves.length
    · have hl1 := h.l0 i (by omega); have hl2 := h.l0 (i + 1) (by omega); have hh := h.hb i hlt
      have z1 := h.lSz (k := i) (by omega); have z2 := h.lSz (k := i + 1) (by omega)
      have zt := h.topSz hy hlt
      rw [dT (by omega), cond_true, idxB hlt, bS, idxB (by omega), bS, whole_eq (by omega) (by omega) hN, bS, w64s (by omega), idxB (by omega), bS, whole_eq (by omega) (by omega) hN, bS,
        CmpRat_eq (Qf.R hy) (Qf.R z1) (by omega) hN, bS, cmpQ_le]
      by_cases hd : y ≤ lvQ t i
      · right
        rw [dT hd, cond_true]
        show some (Sum.inr (⟨R (sumQ (arT t y) i), R (sumQ (moT t y) i)⟩ : Ghull_section)) = _
        unfold areaQ momQ
        rw [sumQ_const hi (fun k h1 h2 => arT_dry (h.dry hd h1 h2)), sumQ_const hi (fun k h1 h2 => moT_dry (h.dry hd h1 h2))]
      · left
        have ht : ((f_exact_CmpRat N (R y) (R (lvQ t (i + 1)))).bind fun v10 => bif decide (v10 < 0) then (some (R y)) else (some (R (lvQ t (i + 1))))) = some (R (topQ t y i)) := by
          rw [CmpRat_eq (Qf.R hy) (Qf.R z2) (by omega) hN, bS, cmpQ_lt]
          unfold topQ
          by_cases hc : y < lvQ t (i + 1)
          · rw [dT hc, if_pos hc]; rfl
          · rw [dF hc, if_neg hc]; rfl
        have hp : arT t y i = ((2 * t.Halves[i]! : Int) : Rat) * (topQ t y i - lvQ t i) := by unfold arT partQ; rw [if_neg hd]
        have zp := h.arSz hy hlt
        have s1 := sumSz' (c := K + 192) (i := i) (fun k hk => h.arSz hy hk) hi hb1
        have s2 := sumSz' (c := 2 * K + 384) (i := i) (fun k hk => h.moSz hy hk) hi hb2
        rw [dF hd, cond_false, ht, bS, w64 (by omega) (by omega), whole_eq (by omega) (by omega) hN, bS, SubRat_eq (Qf.R zt) (Qf.R z1) (by omega) hN, bS, times2 (Qf.R (h.hSz hlt)) (Qf.R (zt.sub z1)) (h.hSz hlt) (zt.sub z1) (by omega) hN, bS, ← hp,
          AddRat_eq (Qf.R s1) (Qf.R zp) (by omega) hN, bS, AddRat_eq (Qf.R z1) (Qf.R zt) (by omega) hN, bS, times2 (Qf.R zp) (Qf.R (z1.add zt)) zp (z1.add zt) (by omega) hN, bS, whole_eq (by omega) (by omega) hN, bS,
          over_eq (Qf.R (zp.mul (z1.add zt))) (Qf.R (k := 64) (Sz.i64 (by omega) (by omega))) (by omega) (by exact rat_ne (by omega)) hN, bS, show arT t y i * (lvQ t i + topQ t y i) / ((2 : Int) : Rat) = moT t y i from rfl]
        rw [AddRat_eq (Qf.R s2) (Qf.R (h.moSz hy hlt)) (by omega) hN, bS]
        exact ⟨_, rfl, ⟨i + 1, rfl, by omega⟩, by simp; omega⟩
    · right
      obtain rfl : i = t.Halves.length := by omega
      rw [dF (by omega)]; rfl) N (⟨R 0, R 0⟩, 0) ⟨0, rfl, by omega⟩ (by simp; omega)
  rw [show loopN (f_hull_immersed_L1 N t (R y)) N ((⟨R ((0 : Int) : Rat), R ((0 : Int) : Rat)⟩ : Ghull_section), 0) = _ from this]; rfl
def haT (t : GStation) (y : Rat) (k : Nat) : Int := if lvQ t k ≤ y ∧ y < lvQ t (k + 1) then t.Halves[k]! + 1 else 0
def halfQ (t : GStation) (y : Rat) : Int := if firstErr (haT t y) t.Halves.length 0 = 0 then 0 else firstErr (haT t y) t.Halves.length 0 - 1
theorem firstErr_all {e : Nat → Int} {p : Int → Prop} (h0 : p 0) : ∀ {k i : Nat}, (∀ j, i ≤ j → j < i + k → p (e j)) → p (firstErr e k i) := by
 intro k
 induction k with
 | zero => intro i _; exact h0
 | succ k ih =>
  intro i h
  rw [firstErr]
  split
  ·exact ih (fun j h1 h2 => h j (by omega) (by omega))
  ·exact h i (by omega) (by omega)
theorem Fit.half {t : GStation} (h : Fit t) (y : Rat) : 0 ≤ halfQ t y ∧ halfQ t y ≤ 100000 := by
 have := firstErr_all (e := haT t y) (p := fun z => 0 ≤ z ∧ z ≤ 100001) (by omega) (k := t.Halves.length) (i := 0) (fun j _ hj => by
  have := h.hb j (by omega)
  unfold haT
  split <;> omega)
 unfold halfQ
 split <;> omega
theorem atWater_eq {N K : Nat} {t : GStation} {y : Rat} (h : Fit t) (hy : Sz K y) (hK : K ≤ 10000) (hN : 2 ^ 64 ≤ N) : f_hull_atWater N t (R y) = some (halfQ t y) := by
  unfold f_hull_atWater
  have hn := h.nh; have hn3 := h.n3
  rw [loop_err (f := f_hull_atWater_L1 N t (R y)) (e := haT t y) (n := t.Halves.length) (fin := Sum.inl ()) (err := fun z => Sum.inr (z - 1)) (fun i hi _ => by
    unfold f_hull_atWater_L1
    simp only [cmp_lss, cmp_geq]
    have hl1 := h.l0 i (by omega); have hl2 := h.l0 (i + 1) (by omega); have hh := h.hb i hi
    have z1 := h.lSz (k := i) (by omega); have z2 := h.lSz (k := i + 1) (by omega)
    rw [dT (by omega), cond_true, idxB hi, bS, idxB (by omega), bS, whole_eq (by omega) (by omega) hN, bS, CmpRat_eq (Qf.R hy) (Qf.R z1) (by omega) hN, bS, cmpQ_ge, w64s (by omega)]
    by_cases h1 : lvQ t i ≤ y
    · rw [dT h1, cond_true, idxB (by omega), bS, cond_true, whole_eq (by omega) (by omega) hN, bS, cond_true, CmpRat_eq (Qf.R hy) (Qf.R z2) (by omega) hN, bS, cmpQ_lt, Bool.true_and]
      by_cases h2 : y < lvQ t (i + 1)
      · have e : haT t y i = t.Halves[i]! + 1 := by unfold haT; rw [if_pos ⟨h1, h2⟩]
        rw [dT h2, e, if_neg (by omega), cond_true, show t.Halves[i]! + 1 - 1 = t.Halves[i]! by omega]
      · have e : haT t y i = 0 := by unfold haT; rw [if_neg (fun h => h2 h.2)]
        rw [dF h2, e]; rfl
    · have e : haT t y i = 0 := by unfold haT; rw [if_neg (fun h => h1 h.1)]
      rw [dF h1, e]; rfl) (fun _ => by
    unfold f_hull_atWater_L1
    simp only [cmp_lss]
    rw [dF (by omega)]; rfl) (by omega), bS]
  unfold errOr halfQ
  split <;> rfl
end Go.KB
namespace Go.KB
set_option linter.unusedVariables false
set_option maxRecDepth 100000
structure Fits (s : GShip) : Prop where
 n1 : 1 ≤ s.Stations.length
 n6 : s.Stations.length ≤ 6
 fit : ∀ i, i < s.Stations.length → Fit s.Stations[i]!
 n8 : ∀ i, i < s.Stations.length → s.Stations[i]!.Levels.length ≤ 8
 len : 1 ≤ s.Length ∧ s.Length ≤ 1000000
 lds : ldsErr s = 0
theorem sta_fit {l : List GStation} {i : Nat} (h : staErr l i = 0) : placeErr l[i]! = 0 ∧ formErr l[i]! = 0 := by
 unfold staErr staErr1 at h
 split at h
 ·rename_i hp
  refine ⟨hp, ?_⟩
  split at h
  ·exact h
  ·split at h
   ·exact h
   ·rename_i hn; exact absurd h hn
 ·rename_i hp; exact absurd h hp
theorem Fits.of {s : GShip} (ht : Tame s) (h : shpErr s = 0) : Fits s := by
 unfold shpErr at h
 split at h
 ·split at h
  ·rename_i hl
   rw [Bool.and_eq_true, inR_iff, inR_iff] at hl
   split at h
   ·rename_i hz
    have hf : ∀ i, i < s.Stations.length → Fit s.Stations[i]! := fun i hi => by
     have := sta_fit (firstErr_zero hz i (by omega) (by omega))
     exact Fit.of this.1 this.2
    refine ⟨by omega, ?_, hf, fun i hi => ?_, hl.1, h⟩
    ·have := ht.s6; omega
    ·have := ht.l8 i hi; have := (hf i hi).n3; omega
   ·rename_i hz; exact absurd h hz
  ·cases h
 ·cases h
theorem shp_lds {s : GShip} (h : shpErr s = 0) : ldsErr s = 0 := by
 unfold shpErr at h
 split at h
 ·split at h
  ·split at h
   ·exact h
   ·rename_i hz; exact absurd h hz
  ·cases h
 ·cases h
section
variable (s : GShip) (p q : Rat)
def yT (i : Nat) : Rat := ySet p q s.Stations[i]!.X
def wT (i : Nat) : Rat := (s.Stations[i]!.Width : Int)
def xT (i : Nat) : Rat := (s.Stations[i]!.X : Int)
def aT (i : Nat) : Rat := areaQ s.Stations[i]! (yT s p q i)
def mT (i : Nat) : Rat := momQ s.Stations[i]! (yT s p q i)
def bT (i : Nat) : Rat := (halfQ s.Stations[i]! (yT s p q i) : Int)
def tV (i : Nat) : Rat := wT s i * aT s p q i
def tX (i : Nat) : Rat := wT s i * aT s p q i * xT s i
def tZ (i : Nat) : Rat := wT s i * mT s p q i
def tA (i : Nat) : Rat := ((2 : Int) : Rat) * bT s p q i * wT s i
def tF (i : Nat) : Rat := tA s p q i * xT s i
def tC (i : Nat) : Rat := ((2 : Int) : Rat) * bT s p q i * bT s p q i * bT s p q i * wT s i / ((3 : Int) : Rat)
def tL (i : Nat) : Rat := tA s p q i * xT s i * xT s i
def hyS (i : Nat) : GHydro := ⟨R (sumQ (tV s p q) i), zeroR, R (sumQ (tX s p q) i), R (sumQ (tZ s p q) i), R (sumQ (tA s p q) i), R (sumQ (tF s p q) i), R (sumQ (tC s p q) i), R (sumQ (tL s p q) i), zeroR⟩
end
section
variable {s : GShip} {p q : Rat} {i : Nat}
theorem Fits.wSz (h : Fits s) (hi : i < s.Stations.length) : Sz 64 (wT s i) := by have := h.fit i hi; have := this.w0; have := (h.fit i hi).w1; exact Sz.i64 (by omega) (by omega)
theorem Fits.xSz (h : Fits s) (hi : i < s.Stations.length) : Sz 64 (xT s i) := by have := (h.fit i hi).x0; have := (h.fit i hi).x1; exact Sz.i64 (by omega) (by omega)
theorem Fits.bSz (h : Fits s) (hi : i < s.Stations.length) : Sz 64 (bT s p q i) := by have := (h.fit i hi).half (yT s p q i); exact Sz.i64 (by omega) (by omega)
variable {K : Nat} (hK : K ≤ 1000) (hy : ∀ i, i < s.Stations.length → Sz K (yT s p q i))
include hK hy
theorem Fits.aSz (h : Fits s) (hi : i < s.Stations.length) : Sz 9000 (aT s p q i) := by
 have h1 := h.fit i hi; have h2 := h.n8 i hi; have h3 := h1.nh
 exact sumSz' (c := K + 192) (fun k hk => h1.arSz (hy i hi) hk) (Nat.le_refl _) (Nat.le_trans (Nat.mul_le_mul (show K + 192 ≤ 1192 by omega) (show _ ≤ 7 by omega)) (by omega))
theorem Fits.mSz (h : Fits s) (hi : i < s.Stations.length) : Sz 17000 (mT s p q i) := by
 have h1 := h.fit i hi; have h2 := h.n8 i hi; have h3 := h1.nh
 exact sumSz' (c := 2 * K + 384) (fun k hk => h1.moSz (hy i hi) hk) (Nat.le_refl _) (Nat.le_trans (Nat.mul_le_mul (show 2 * K + 384 ≤ 2384 by omega) (show _ ≤ 7 by omega)) (by omega))
theorem Fits.vSz (h : Fits s) (hi : i < s.Stations.length) : Sz 9064 (tV s p q i) := ((h.wSz hi).mul (h.aSz hK hy hi)).mono (by omega)
theorem Fits.xxSz (h : Fits s) (hi : i < s.Stations.length) : Sz 9128 (tX s p q i) := ((h.vSz hK hy hi).mul (h.xSz hi)).mono (by omega)
theorem Fits.zSz (h : Fits s) (hi : i < s.Stations.length) : Sz 17064 (tZ s p q i) := ((h.wSz hi).mul (h.mSz hK hy hi)).mono (by omega)
omit hK hy in
theorem Fits.arSz' (h : Fits s) (hi : i < s.Stations.length) : Sz 192 (tA s p q i) := (((Sz.i64 (z := 2) (by omega) (by omega)).mul (h.bSz hi)).mul (h.wSz hi)).mono (by omega)
omit hK hy in
theorem Fits.fSz (h : Fits s) (hi : i < s.Stations.length) : Sz 256 (tF s p q i) := ((h.arSz' hi).mul (h.xSz hi)).mono (by omega)
omit hK hy in
theorem Fits.lSz (h : Fits s) (hi : i < s.Stations.length) : Sz 320 (tL s p q i) := ((h.fSz hi).mul (h.xSz hi)).mono (by omega)
omit hK hy in
theorem Fits.c0Sz (h : Fits s) (hi : i < s.Stations.length) : Sz 320 (((2 : Int) : Rat) * bT s p q i * bT s p q i * bT s p q i * wT s i) := (((((Sz.i64 (z := 2) (by omega) (by omega)).mul (h.bSz hi)).mul (h.bSz hi)).mul (h.bSz hi)).mul (h.wSz hi)).mono (by omega)
omit hK hy in
theorem Fits.cSz (h : Fits s) (hi : i < s.Stations.length) : Sz 384 (tC s p q i) := ((h.c0Sz hi).div (Sz.i64 (z := 3) (by omega) (by omega))).mono (by omega)
theorem Fits.szV (h : Fits s) (hi : i ≤ s.Stations.length) : Sz 55000 (sumQ (tV s p q) i) := sumSz' (fun k hk => h.vSz hK hy hk) hi (Nat.le_trans (Nat.mul_le_mul_left _ h.n6) (by omega))
theorem Fits.szX (h : Fits s) (hi : i ≤ s.Stations.length) : Sz 55000 (sumQ (tX s p q) i) := sumSz' (fun k hk => h.xxSz hK hy hk) hi (Nat.le_trans (Nat.mul_le_mul_left _ h.n6) (by omega))
theorem Fits.szZ (h : Fits s) (hi : i ≤ s.Stations.length) : Sz 103000 (sumQ (tZ s p q) i) := sumSz' (fun k hk => h.zSz hK hy hk) hi (Nat.le_trans (Nat.mul_le_mul_left _ h.n6) (by omega))
omit hK hy in
theorem Fits.szA (h : Fits s) (hi : i ≤ s.Stations.length) : Sz 1200 (sumQ (tA s p q) i) := sumSz' (fun k hk => h.arSz' hk) hi (Nat.le_trans (Nat.mul_le_mul_left _ h.n6) (by omega))
omit hK hy in
theorem Fits.szF (h : Fits s) (hi : i ≤ s.Stations.length) : Sz 1600 (sumQ (tF s p q) i) := sumSz' (fun k hk => h.fSz hk) hi (Nat.le_trans (Nat.mul_le_mul_left _ h.n6) (by omega))
omit hK hy in
theorem Fits.szC (h : Fits s) (hi : i ≤ s.Stations.length) : Sz 2400 (sumQ (tC s p q) i) := sumSz' (fun k hk => h.cSz hk) hi (Nat.le_trans (Nat.mul_le_mul_left _ h.n6) (by omega))
omit hK hy in
theorem Fits.szL (h : Fits s) (hi : i ≤ s.Stations.length) : Sz 2000 (sumQ (tL s p q) i) := sumSz' (fun k hk => h.lSz hk) hi (Nat.le_trans (Nat.mul_le_mul_left _ h.n6) (by omega))
theorem hyd_loop {N k : Nat} {a : GAttitude} (h : Fits s) (h1 : Qf k a.Sink p) (h2 : Qf k a.Slope q) (hk : k ≤ 1000) (hN : 2 ^ 64 ≤ N) : loopN (f_hull_hydrostatics_L1 N s a) N (hyS s p q 0, 0) = some (hyS s p q s.Stations.length) := by
 have h6 := h.n6
 refine loopN_fold (f := f_hull_hydrostatics_L1 N s a) s.Stations.length (hyS s p q) (hyS s p q s.Stations.length) (fun i hi => ?_) ?_ N (by omega)
 ·have hf := h.fit i hi
  have x0 := hf.x0; have x1 := hf.x1; have w0 := hf.w0; have w1 := hf.w1; have hb := hf.half (yT s p q i)
  have hyi := hy i hi
  have zw := h.wSz hi; have zx := h.xSz hi; have za := h.aSz hK hy hi; have zm := h.mSz hK hy hi; have zb := h.bSz (p := p) (q := q) hi
  have z2 : Sz 64 ((2 : Int) : Rat) := Sz.i64 (by omega) (by omega)
  have z3 : Sz 64 ((3 : Int) : Rat) := Sz.i64 (by omega) (by omega)
  have hi' : i ≤ s.Stations.length := by omega
  unfold f_hull_hydrostatics_L1 hyS
  simp only [cmp_lss]
  rw [dT (by omega), cond_true, idxB hi, bS, Imm_eq h1 h2 (by omega) (by omega) (by omega) hN, bS, whole_eq (by omega) (by omega) hN, bS, whole_eq (by omega) (by omega) hN, bS,
   show ySet p q s.Stations[i]!.X = yT s p q i from rfl, immersed_eq hf hyi (by omega) hN, bS,
   show areaQ s.Stations[i]! (yT s p q i) = aT s p q i from rfl, show momQ s.Stations[i]! (yT s p q i) = mT s p q i from rfl, show ((s.Stations[i]!.Width : Int) : Rat) = wT s i from rfl, show ((s.Stations[i]!.X : Int) : Rat) = xT s i from rfl]
  rw [times2 (Qf.R zw) (Qf.R za) zw za (by omega) hN, bS, show wT s i * aT s p q i = tV s p q i from rfl, AddRat_eq (Qf.R (h.szV hK hy hi')) (Qf.R (h.vSz hK hy hi)) (by omega) hN, bS,
   times3 (Qf.R zw) (Qf.R za) (Qf.R zx) zw za zx (by omega) hN, bS, show wT s i * aT s p q i * xT s i = tX s p q i from rfl, AddRat_eq (Qf.R (h.szX hK hy hi')) (Qf.R (h.xxSz hK hy hi)) (by omega) hN, bS,
   times2 (Qf.R zw) (Qf.R zm) zw zm (by omega) hN, bS, show wT s i * mT s p q i = tZ s p q i from rfl, AddRat_eq (Qf.R (h.szZ hK hy hi')) (Qf.R (h.zSz hK hy hi)) (by omega) hN, bS,
   atWater_eq hf hyi (by omega) hN, bS, whole_eq (by omega) (by omega) hN, bS, show ((halfQ s.Stations[i]! (yT s p q i) : Int) : Rat) = bT s p q i from rfl, whole_eq (by omega) (by omega) hN, bS,
   times3 (Qf.R z2) (Qf.R zb) (Qf.R zw) z2 zb zw (by omega) hN, bS, show ((2 : Int) : Rat) * bT s p q i * wT s i = tA s p q i from rfl, AddRat_eq (Qf.R (h.szA hi')) (Qf.R (h.arSz' hi)) (by omega) hN, bS,
   times2 (Qf.R (h.arSz' hi)) (Qf.R zx) (h.arSz' hi) zx (by omega) hN, bS, show tA s p q i * xT s i = tF s p q i from rfl, AddRat_eq (Qf.R (h.szF hi')) (Qf.R (h.fSz hi)) (by omega) hN, bS,
   bS, times5 (Qf.R z2) (Qf.R zb) (Qf.R zw) z2 zb zw (by omega) hN, bS, whole_eq (by omega) (by omega) hN, bS,
   over_eq (Qf.R (h.c0Sz hi)) (Qf.R z3) (by omega) (by exact rat_ne (by omega)) hN, bS, show ((2 : Int) : Rat) * bT s p q i * bT s p q i * bT s p q i * wT s i / ((3 : Int) : Rat) = tC s p q i from rfl, AddRat_eq (Qf.R (h.szC hi')) (Qf.R (h.cSz hi)) (by omega) hN, bS,
   times3 (Qf.R (h.arSz' hi)) (Qf.R zx) (Qf.R zx) (h.arSz' hi) zx zx (by omega) hN, bS, show tA s p q i * xT s i * xT s i = tL s p q i from rfl, AddRat_eq (Qf.R (h.szL hi')) (Qf.R (h.lSz hi)) (by omega) hN, bS, w64s (by omega)]
  rfl
 ·unfold f_hull_hydrostatics_L1
  simp only [cmp_lss]
  rw [dF (by omega)]; rfl
end
section
variable (s : GShip) (p q : Rat)
def vQ : Rat := sumQ (tV s p q) s.Stations.length
def xQ : Rat := sumQ (tX s p q) s.Stations.length
def zQ' : Rat := sumQ (tZ s p q) s.Stations.length
def wpQ : Rat := sumQ (tA s p q) s.Stations.length
def fQ : Rat := sumQ (tF s p q) s.Stations.length
def cQ : Rat := sumQ (tC s p q) s.Stations.length
def lQ : Rat := sumQ (tL s p q) s.Stations.length
def floQ : Rat := if wpQ s p q = 0 then 0 else fQ s p q / wpQ s p q
def lonQ : Rat := if wpQ s p q = 0 then 0 else lQ s p q - wpQ s p q * floQ s p q * floQ s p q
def hydroQ (d : Int) : GHydro := ⟨R (vQ s p q), R (kgQ (vQ s p q) d), R (xQ s p q / vQ s p q), R (zQ' s p q / vQ s p q), R (wpQ s p q), R (floQ s p q), R (cQ s p q), R (lonQ s p q), R (zQ' s p q / vQ s p q + cQ s p q / vQ s p q)⟩
def zeroH : GHydro := ⟨zeroR, zeroR, zeroR, zeroR, zeroR, zeroR, zeroR, zeroR, zeroR⟩
end
theorem hyd_eq {N k K : Nat} {s : GShip} {p q : Rat} {a : GAttitude} {d : Int} (h : Fits s) (h1 : Qf k a.Sink p) (h2 : Qf k a.Slope q) (hk : k ≤ 1000) (hK : K ≤ 1000) (hy : ∀ i, i < s.Stations.length → Sz K (yT s p q i)) (g0 : -9223372036854775808 ≤ d) (g1 : d ≤ 9223372036854775807) (hN : 2 ^ 64 ≤ N) :
    f_hull_hydrostatics N s a d = some (if vQ s p q = 0 then (zeroH, false) else (hydroQ s p q d, true)) := by
  unfold f_hull_hydrostatics
  have sV : Sz 55000 (vQ s p q) := h.szV hK hy (Nat.le_refl _)
  have sX : Sz 55000 (xQ s p q) := h.szX hK hy (Nat.le_refl _)
  have sZ : Sz 103000 (zQ' s p q) := h.szZ hK hy (Nat.le_refl _)
  have sA : Sz 1200 (wpQ s p q) := h.szA (Nat.le_refl _)
  have sF : Sz 1600 (fQ s p q) := h.szF (Nat.le_refl _)
  have sC : Sz 2400 (cQ s p q) := h.szC (Nat.le_refl _)
  have sL : Sz 2000 (lQ s p q) := h.szL (Nat.le_refl _)
  rw [whole_eq (by omega) (by omega) hN, bS]
  rw [show loopN (f_hull_hydrostatics_L1 N s a) N ((⟨R ((0 : Int) : Rat), ⟨⟨false, []⟩, ⟨false, []⟩⟩, R ((0 : Int) : Rat), R ((0 : Int) : Rat), R ((0 : Int) : Rat), R ((0 : Int) : Rat), R ((0 : Int) : Rat), R ((0 : Int) : Rat), ⟨⟨false, []⟩, ⟨false, []⟩⟩⟩ : GHydro), 0) = some (hyS s p q s.Stations.length) from hyd_loop hK hy h h1 h2 hk hN, bS]
  rw [show hyS s p q s.Stations.length = (⟨R (vQ s p q), zeroR, R (xQ s p q), R (zQ' s p q), R (wpQ s p q), R (fQ s p q), R (cQ s p q), R (lQ s p q), zeroR⟩ : GHydro) from rfl]
  dsimp only
  rw [hisZero_eq (Qf.R sV) (by omega) hN, bS]
  by_cases hV : vQ s p q = 0
  · rw [dT hV, cond_true, if_pos hV]; rfl
  · rw [dF hV, cond_false, if_neg hV, mass_eq (Qf.R sV) sV (by omega) g0 g1 hN, bS, over_eq (Qf.R sX) (Qf.R sV) (by omega) hV hN, bS, over_eq (Qf.R sZ) (Qf.R sV) (by omega) hV hN, bS, hisZero_eq (Qf.R sA) (by omega) hN, bS]
    by_cases hA : wpQ s p q = 0
    · rw [dT hA, cond_true, bS, bS, bS]
      dsimp only
      rw [over_eq (Qf.R sC) (Qf.R sV) (by omega) hV hN, bS, AddRat_eq (Qf.R (sZ.div sV)) (Qf.R (sC.div sV)) (by omega) hN, bS]
      unfold hydroQ floQ lonQ
      rw [if_pos hA, if_pos hA]; rfl
    · have eF : floQ s p q = fQ s p q / wpQ s p q := by unfold floQ; rw [if_neg hA]
      have zF := sF.div sA
      rw [dF hA, cond_false, over_eq (Qf.R sF) (Qf.R sA) (by omega) hA hN, bS, ← eF]
      rw [← eF] at zF
      rw [times3 (Qf.R sA) (Qf.R zF) (Qf.R zF) sA zF zF (by omega) hN, bS, SubRat_eq (Qf.R sL) (Qf.R ((sA.mul zF).mul zF)) (by omega) hN, bS, bS]
      dsimp only
      rw [over_eq (Qf.R sC) (Qf.R sV) (by omega) hV hN, bS, AddRat_eq (Qf.R (sZ.div sV)) (Qf.R (sC.div sV)) (by omega) hN, bS]
      unfold hydroQ
      rw [show lonQ s p q = lQ s p q - wpQ s p q * floQ s p q * floQ s p q by unfold lonQ; rw [if_neg hA]]
end Go.KB
namespace Go.KB
set_option linter.unusedVariables false
set_option maxRecDepth 100000
def densErr (d : Int) : Int := if inR 900 1100 d = true then 0 else 2
theorem dens_eq {N : Nat} {d : Int} : f_hull_checkDensity N d = some (densErr d) := by
 unfold f_hull_checkDensity densErr
 rw [between_eq, bS]
 cases inR 900 1100 d <;> rfl
theorem dens_ok {d : Int} (h : densErr d = 0) : 900 ≤ d ∧ d ≤ 1100 := by
 unfold densErr at h
 split at h
 ·rename_i hd; rwa [inR_iff] at hd
 ·cases h
def bothE (s : GShip) (d : Int) : Int := if shpErr s = 0 then densErr d else shpErr s
theorem floated_eq {N : Nat} {s : GShip} {d : Int} (ht : Tame s) (hN : 2 ^ 64 ≤ N) : f_hull_floated N s d = some (bothE s d) := by
 unfold f_hull_floated bothE
 rw [hCheck_eq ht hN, bS, cmp_neq, dens_eq, bS]
 by_cases h : shpErr s = 0
 ·rw [dT h, if_pos h]; rfl
 ·rw [dF h, if_neg h]; rfl
theorem both_ok {s : GShip} {d : Int} (h : bothE s d = 0) : shpErr s = 0 ∧ densErr d = 0 := by
 unfold bothE at h
 split at h
 ·rename_i hs; exact ⟨hs, h⟩
 ·rename_i hs; exact absurd h hs
theorem Fits.y32 {s : GShip} {p q : Rat} {a : GAttitude} {k : Nat} (h : Fits s) (h1 : Qf k a.Sink p) (h2 : Qf k a.Slope q) : ∀ i, i < s.Stations.length → Sz (2 * k + 98) (yT s p q i) := fun i hi => by
 have := (h.fit i hi).x0; have := (h.fit i hi).x1
 exact ySz h1 h2 (by omega) (by omega)
theorem Hyd_eq {N k : Nat} {s : GShip} {p q : Rat} {a : GAttitude} {d : Int} (ht : Tame s) (h1 : Qf k a.Sink p) (h2 : Qf k a.Slope q) (hk : k ≤ 400) (hN : 2 ^ 64 ≤ N) :
  f_hull_Hydrostatics N s a d = some (if bothE s d = 0 then (if vQ s p q = 0 then (zeroH, 29) else (hydroQ s p q d, 0)) else (zeroH, bothE s d)) := by
 unfold f_hull_Hydrostatics
 rw [floated_eq ht hN, bS, cmp_neq]
 by_cases hb : bothE s d = 0
 ·obtain ⟨hs, hd⟩ := both_ok hb
  have hf := Fits.of ht hs
  have hd := dens_ok hd
  rw [dT hb, if_pos hb, Bool.not_true, cond_false, hyd_eq hf h1 h2 (by omega) (K := 2 * k + 98) (by omega) (hf.y32 h1 h2) (by omega) (by omega) hN, bS]
  by_cases hV : vQ s p q = 0
  ·rw [if_pos hV, if_pos hV]; rfl
  ·rw [if_neg hV, if_neg hV]; rfl
 ·rw [dF hb, if_neg hb]; rfl
section
variable {s : GShip} {p q : Rat} {K : Nat} (hK : K ≤ 1000) (hy : ∀ i, i < s.Stations.length → Sz K (yT s p q i))
include hK hy
theorem hydro_sz (h : Fits s) {d : Int} (g0 : -9223372036854775808 ≤ d) (g1 : d ≤ 9223372036854775807) :
  Sz 56000 (kgQ (vQ s p q) d) ∧ Sz 220000 (zQ' s p q / vQ s p q + cQ s p q / vQ s p q) ∧ Sz 3000 (floQ s p q) ∧ Sz 20000 (lonQ s p q) := by
 have sV : Sz 55000 (vQ s p q) := h.szV hK hy (Nat.le_refl _)
 have sZ : Sz 103000 (zQ' s p q) := h.szZ hK hy (Nat.le_refl _)
 have sA : Sz 1200 (wpQ s p q) := h.szA (Nat.le_refl _)
 have sF : Sz 1600 (fQ s p q) := h.szF (Nat.le_refl _)
 have sC : Sz 2400 (cQ s p q) := h.szC (Nat.le_refl _)
 have sL : Sz 2000 (lQ s p q) := h.szL (Nat.le_refl _)
 have szf : Sz 3000 (floQ s p q) := by
  unfold floQ
  split
  ·exact Sz.zero.mono (by omega)
  ·exact (sF.div sA).mono (by omega)
 refine ⟨((sV.mul (Sz.i64 g0 g1)).div (Sz.i64 (z := 1000000000) (by omega) (by omega))).mono (by omega), ((sZ.div sV).add (sC.div sV)).mono (by omega), szf, ?_⟩
 unfold lonQ
 split
 ·exact Sz.zero.mono (by omega)
 ·exact (sL.sub ((sA.mul szf).mul szf)).mono (by omega)
end
end Go.KB
namespace Go.KB
set_option linter.unusedVariables false
theorem bsShort_eq {N : Nat} {x : GRat} (hx : x.ok) : ∃ b, f_base_Short N x 3 = some b ∧ (b = true → Qf 32 x (rv x)) := by
 refine ⟨_, rfl, fun h => ?_⟩
 simp only [cmp_leq, Bool.and_eq_true, decide_eq_true_eq] at h
 exact Qf.raw hx (by omega) (by omega)
end Go.KB
