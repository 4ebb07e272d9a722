/- Plain laws: what is immersed of a station, of the program. Plain laws: the hydrostatics that the program computes. Plain laws: errors of densities, the answer of Hydrostatics. Plain laws: attitudes with short numbers. No condition. -/
import Derived.Test.YtoiefhkiipolmaaGreatPZd
import Derived.Test.YtoiefhkiipolmaaGreatPZb
namespace Go.KB
set_option linter.unusedVariables false
set_option maxRecDepth 100000
def jG9 (f : Nat → Rat) : Nat → Rat
 | 0 => 0
 | n + 1 => jG9 f n + f n
theorem jC1 {f g : Nat → Rat} : ∀ {n : Nat}, (∀ k, k < n → f k = g k) → jG9 f n = jG9 g n := by
 intro n
 induction n with
 | zero => intro _; rfl
 | succ n ih => intro h; rw [jG9, jG9, ih (fun k hk => h k (by omega)), h n (by omega)]
theorem jRr {f : Nat → Rat} {i : Nat} : ∀ {n : Nat}, i ≤ n → (∀ k, i ≤ k → k < n → f k = 0) → jG9 f n = jG9 f i := by
  intro n
  induction n with
  | zero => intro h _; obtain rfl : i = 0 := by omega
            rfl
  | succ n ih =>
    intro h hz
    rcases Nat.eq_or_lt_of_le h with rfl | h
    · rfl
    · rw [jG9, ih (by omega) (fun k h1 h2 => hz k h1 (by omega)), hz n (by omega) (by omega), Rat.add_zero]
theorem sumSz {f : Nat → Rat} {c : Nat} : ∀ {n : Nat}, (∀ k, k < n → Sz c (f k)) → Sz (c * n) (jG9 f n) := by
 intro n
 induction n with
 | zero => intro _; exact Sz.zero
 | succ n ih => intro h; exact ((ih (fun k hk => h k (by omega))).add (h n (by omega))).mono (by rw [Nat.mul_succ]; exact Nat.le_refl _)
theorem jFr {f : Nat → Rat} {c n i m : Nat} (h : ∀ k, k < n → Sz c (f k)) (hi : i ≤ n) (hm : c * n ≤ m) : Sz m (jG9 f i) :=
 (sumSz (fun k hk => h k (by omega))).mono (Nat.le_trans (Nat.mul_le_mul_left c hi) hm)
structure Fit (t : jJy) : Prop where
 x0 : -1000000 ≤ t.X
 x1 : t.X ≤ 1000000
 w0 : 1 ≤ t.Width
 w1 : t.Width ≤ 100000
 n2 : 2 ≤ t.Levels.length
 n3 : t.Levels.length ≤ 30
 nh : t.Halves.length + 1 = t.Levels.length
 l0 : ∀ i, i < t.Levels.length → 0 ≤ t.Levels[i]! ∧ t.Levels[i]! ≤ 100000
 la : ∀ i, 0 < i → i < t.Levels.length → t.Levels[i - 1]! < t.Levels[i]!
 hb : ∀ i, i < t.Halves.length → 0 ≤ t.Halves[i]! ∧ t.Halves[i]! ≤ 100000
theorem jN1 {a b n : Int} : inR a b n = true ↔ a ≤ n ∧ n ≤ b := by unfold inR; simp
theorem Fit.of {t : jJy} (h1 : jY0 t = 0) (h2 : jKz t = 0) : Fit t := by
  unfold jY0 at h1
  split at h1
  · rename_i hp
    rw [jN1, jN1] at hp
    unfold jKz at h2
    split at h2
    · cases h2
    · rename_i hn
      split at h2
      · rename_i hl
        have h3 : ∀ i, i < t.Levels.length → (0 ≤ t.Levels[i]! ∧ t.Levels[i]! ≤ 100000) ∧ ¬(0 < i ∧ t.Levels[i]! ≤ t.Levels[i - 1]!) := fun i hi => by
          have := jHe hl i (by omega) (by omega)
          unfold jP3 at this
          split at this
          · rename_i h4
            rw [jN1] at h4
            split at this
            · cases this
            · rename_i h5; exact ⟨h4, h5⟩
          · cases this
        refine ⟨by omega, by omega, by omega, by omega, by omega, by omega, by omega, fun i hi => (h3 i hi).1, fun i h0 hi => ?_, fun i hi => ?_⟩
        · have := (h3 i hi).2
          omega
        · have := jHe h2 i (by omega) (by omega)
          unfold qV5 at this
          split at this
          · rename_i h4; rwa [jN1] at h4
          · cases this
      · rename_i hl; exact absurd h2 hl
  · cases h1
theorem Fit.asc {t : jJy} (h : Fit t) {i : Nat} : ∀ {j : Nat}, i ≤ j → j < t.Levels.length → t.Levels[i]! ≤ t.Levels[j]! := by
  intro j
  induction j with
  | zero => intro h1 _; obtain rfl : i = 0 := by omega
            omega
  | succ j ih =>
    intro h1 h2
    rcases Nat.eq_or_lt_of_le h1 with rfl | h1
    · omega
    · have h3 := ih (by omega) (by omega)
      have h4 := h.la (j + 1) (by omega) h2
      rw [Nat.add_sub_cancel] at h4
      omega
abbrev lvQ (t : jJy) (k : Nat) : Rat := (t.Levels[k]! : Int)
def qU2 (t : jJy) (y : Rat) (k : Nat) : Rat := if y < lvQ t (k + 1) then y else lvQ t (k + 1)
def qXa (t : jJy) (y : Rat) (k : Nat) : Rat := if y ≤ lvQ t k then 0 else qU2 t y k - lvQ t k
def arT (t : jJy) (y : Rat) (k : Nat) : Rat := ((2 * t.Halves[k]! : Int) : Rat) * qXa t y k
def moT (t : jJy) (y : Rat) (k : Nat) : Rat := arT t y k * (lvQ t k + qU2 t y k) / ((2 : Int) : Rat)
def qXx (t : jJy) (y : Rat) : Rat := jG9 (arT t y) t.Halves.length
def momQ (t : jJy) (y : Rat) : Rat := jG9 (moT t y) t.Halves.length
theorem Fit.lSz {t : jJy} (h : Fit t) {k : Nat} (hk : k < t.Levels.length) : Sz 64 (lvQ t k) := by have := h.l0 k hk; exact Sz.i64 (by omega) (by omega)
theorem Fit.topSz {t : jJy} {y : Rat} {K k : Nat} (h : Fit t) (hy : Sz K y) (hk : k < t.Halves.length) : Sz (K + 64) (qU2 t y k) := by
 unfold qU2
 have := h.nh
 split
 ·exact hy.mono (by omega)
 ·exact (h.lSz (by omega)).mono (by omega)
theorem Fit.partSz {t : jJy} {y : Rat} {K k : Nat} (h : Fit t) (hy : Sz K y) (hk : k < t.Halves.length) : Sz (K + 128) (qXa t y k) := by
 unfold qXa
 have := h.nh
 split
 ·exact Sz.zero.mono (by omega)
 ·exact ((h.topSz hy hk).sub (h.lSz (by omega))).mono (by omega)
theorem Fit.hSz {t : jJy} {k : Nat} (h : Fit t) (hk : k < t.Halves.length) : Sz 64 ((2 * t.Halves[k]! : Int) : Rat) := by have := h.hb k hk; exact Sz.i64 (by omega) (by omega)
theorem Fit.arSz {t : jJy} {y : Rat} {K k : Nat} (h : Fit t) (hy : Sz K y) (hk : k < t.Halves.length) : Sz (K + 192) (arT t y k) := ((h.hSz hk).mul (h.partSz hy hk)).mono (by omega)
theorem Fit.moSz {t : jJy} {y : Rat} {K k : Nat} (h : Fit t) (hy : Sz K y) (hk : k < t.Halves.length) : Sz (2 * K + 384) (moT t y k) := by
 have := h.nh
 exact (((h.arSz hy hk).mul ((h.lSz (k := k) (by omega)).add (h.topSz hy hk))).div (Sz.i64 (z := 2) (by omega) (by omega))).mono (by omega)
theorem Fit.dry {t : jJy} {y : Rat} {i k : Nat} (h : Fit t) (hi : y ≤ lvQ t i) (h1 : i ≤ k) (hk : k < t.Halves.length) : y ≤ lvQ t k := by
 have := h.nh
 have := h.asc h1 (by omega)
 have h2 : lvQ t i ≤ lvQ t k := by exact_mod_cast this
 grind
theorem qWv {t : jJy} {y : Rat} {k : Nat} (h : y ≤ lvQ t k) : arT t y k = 0 := by unfold arT qXa; rw [if_pos h]; grind
theorem qHu {t : jJy} {y : Rat} {k : Nat} (h : y ≤ lvQ t k) : moT t y k = 0 := by unfold moT; rw [qWv h]; simp [Rat.div_def]
theorem qQe {N K : Nat} {t : jJy} {y : Rat} (h : Fit t) (hy : Sz K y) (hK : K ≤ 10000) (hN : 2 ^ 64 ≤ N) : jKd N t (R y) = some ⟨R (qXx t y), R (momQ t y)⟩ := by
  unfold jKd
  have hn := h.nh; have hn3 := h.n3
  rw [jWw (by omega) (by omega) hN, bS, bS]
  have hb1 : (K + 192) * t.Halves.length ≤ 400000 := Nat.le_trans (Nat.mul_le_mul (show K + 192 ≤ 10200 by omega) (show t.Halves.length ≤ 30 by omega)) (by omega)
  have hb2 : (2 * K + 384) * t.Halves.length ≤ 800000 := Nat.le_trans (Nat.mul_le_mul (show 2 * K + 384 ≤ 20400 by omega) (show t.Halves.length ≤ 30 by omega)) (by omega)
  have := jH0 (f := jWm N t (R y)) (fun s => ∃ i : Nat, s = ((⟨R (jG9 (arT t y) i), R (jG9 (moT t y) i)⟩ : jJl), (i : Int)) ∧ i ≤ t.Halves.length) (fun s => t.Halves.length - s.2.toNat) (⟨R (qXx t y), R (momQ t y)⟩ : jJl) (by
    rintro s ⟨i, rfl, hi⟩
    unfold jWm
    simp only [jQk, jD5]
    by_cases hlt : i < t.Halves.length
    · have hl1 := h.l0 i (by omega); have hl2 := h.l0 (i + 1) (by omega); have hh := h.hb i hlt
      have z1 := h.lSz (k := i) (by omega); have z2 := h.lSz (k := i + 1) (by omega)
      have zt := h.topSz hy hlt
      rw [dT (by omega), cnT, jNc hlt, bS, jNc (by omega), bS, jWw (by omega) (by omega) hN, bS, jLn (by omega), jNc (by omega), bS, jWw (by omega) (by omega) hN, bS,
        jM0 (Qf.R hy) (Qf.R z1) (by omega) hN, bS, qHs]
      by_cases hd : y ≤ lvQ t i
      · right
        rw [dT hd, cnT]
        show some (Sum.inr (⟨R (jG9 (arT t y) i), R (jG9 (moT t y) i)⟩ : jJl)) = _
        unfold qXx momQ
        rw [jRr hi (fun k h1 h2 => qWv (h.dry hd h1 h2)), jRr hi (fun k h1 h2 => qHu (h.dry hd h1 h2))]
      · left
        have ht : ((jZf N (R y) (R (lvQ t (i + 1)))).bind fun v10 => bif decide (v10 < 0) then (some (R y)) else (some (R (lvQ t (i + 1))))) = some (R (qU2 t y i)) := by
          rw [jM0 (Qf.R hy) (Qf.R z2) (by omega) hN, bS, qKd]
          unfold qU2
          by_cases hc : y < lvQ t (i + 1)
          · rw [dT hc, if_pos hc]; rfl
          · rw [dF hc, if_neg hc]; rfl
        have hp : arT t y i = ((2 * t.Halves[i]! : Int) : Rat) * (qU2 t y i - lvQ t i) := by unfold arT qXa; rw [if_neg hd]
        have zp := h.arSz hy hlt
        have s1 := jFr (c := K + 192) (i := i) (fun k hk => h.arSz hy hk) hi hb1
        have s2 := jFr (c := 2 * K + 384) (i := i) (fun k hk => h.moSz hy hk) hi hb2
        rw [dF hd, cnF, ht, bS, w64 (by omega) (by omega), jWw (by omega) (by omega) hN, bS, jLk (Qf.R zt) (Qf.R z1) (by omega) hN, bS, jAj (Qf.R (h.hSz hlt)) (Qf.R (zt.sub z1)) (h.hSz hlt) (zt.sub z1) (by omega) hN, bS, ← hp,
          jYg (Qf.R s1) (Qf.R zp) (by omega) hN, bS, jYg (Qf.R z1) (Qf.R zt) (by omega) hN, bS, jAj (Qf.R zp) (Qf.R (z1.add zt)) zp (z1.add zt) (by omega) hN, bS, jWw (by omega) (by omega) hN, bS,
          jMm (Qf.R (zp.mul (z1.add zt))) (Qf.R (k := 64) (Sz.i64 (by omega) (by omega))) (by omega) (by exact jUw (by omega)) hN, bS, show arT t y i * (lvQ t i + qU2 t y i) / ((2 : Int) : Rat) = moT t y i from rfl]
        rw [jYg (Qf.R s2) (Qf.R (h.moSz hy hlt)) (by omega) hN, bS]
        exact ⟨_, rfl, ⟨i + 1, rfl, by omega⟩, by simp; omega⟩
    · right
      obtain rfl : i = t.Halves.length := by omega
      rw [dF (by omega)]; rfl) N (⟨R 0, R 0⟩, 0) ⟨0, rfl, by omega⟩ (by simp; omega)
  rw [show jQ1 (jWm N t (R y)) N ((⟨R ((0 : Int) : Rat), R ((0 : Int) : Rat)⟩ : jJl), 0) = _ from this]; rfl
def haT (t : jJy) (y : Rat) (k : Nat) : Int := if lvQ t k ≤ y ∧ y < lvQ t (k + 1) then t.Halves[k]! + 1 else 0
def qXw (t : jJy) (y : Rat) : Int := if jXv (haT t y) t.Halves.length 0 = 0 then 0 else jXv (haT t y) t.Halves.length 0 - 1
theorem qQj {e : Nat → Int} {p : Int → Prop} (h0 : p 0) : ∀ {k i : Nat}, (∀ j, i ≤ j → j < i + k → p (e j)) → p (jXv e k i) := by
 intro k
 induction k with
 | zero => intro i _; exact h0
 | succ k ih =>
  intro i h
  rw [jXv]
  split
  ·exact ih (fun j h1 h2 => h j (by omega) (by omega))
  ·exact h i (by omega) (by omega)
theorem Fit.half {t : jJy} (h : Fit t) (y : Rat) : 0 ≤ qXw t y ∧ qXw t y ≤ 100000 := by
 have := qQj (e := haT t y) (p := fun z => 0 ≤ z ∧ z ≤ 100001) (by omega) (k := t.Halves.length) (i := 0) (fun j _ hj => by
  have := h.hb j (by omega)
  unfold haT
  split <;> omega)
 unfold qXw
 split <;> omega
theorem qVu {N K : Nat} {t : jJy} {y : Rat} (h : Fit t) (hy : Sz K y) (hK : K ≤ 10000) (hN : 2 ^ 64 ≤ N) : jGs N t (R y) = some (qXw t y) := by
  unfold jGs
  have hn := h.nh; have hn3 := h.n3
  rw [jDm (f := jYj N t (R y)) (e := haT t y) (n := t.Halves.length) (fin := Sum.inl ()) (err := fun z => Sum.inr (z - 1)) (fun i hi _ => by
    unfold jYj
    simp only [jQk, jDv]
    have hl1 := h.l0 i (by omega); have hl2 := h.l0 (i + 1) (by omega); have hh := h.hb i hi
    have z1 := h.lSz (k := i) (by omega); have z2 := h.lSz (k := i + 1) (by omega)
    rw [dT (by omega), cnT, jNc hi, bS, jNc (by omega), bS, jWw (by omega) (by omega) hN, bS, jM0 (Qf.R hy) (Qf.R z1) (by omega) hN, bS, qBv, jLn (by omega)]
    by_cases h1 : lvQ t i ≤ y
    · rw [dT h1, cnT, jNc (by omega), bS, cnT, jWw (by omega) (by omega) hN, bS, cnT, jM0 (Qf.R hy) (Qf.R z2) (by omega) hN, bS, qKd, Bool.true_and]
      by_cases h2 : y < lvQ t (i + 1)
      · have e : haT t y i = t.Halves[i]! + 1 := by unfold haT; rw [if_pos ⟨h1, h2⟩]
        rw [dT h2, e, if_neg (by omega), cnT, show t.Halves[i]! + 1 - 1 = t.Halves[i]! by omega]
      · have e : haT t y i = 0 := by unfold haT; rw [if_neg (fun h => h2 h.2)]
        rw [dF h2, e]; rfl
    · have e : haT t y i = 0 := by unfold haT; rw [if_neg (fun h => h1 h.1)]
      rw [dF h1, e]; rfl) (fun _ => by
    unfold jYj
    simp only [jQk]
    rw [dF (by omega)]; rfl) (by omega), bS]
  unfold jLz qXw
  split <;> rfl
end Go.KB
namespace Go.KB
set_option linter.unusedVariables false
set_option maxRecDepth 100000
structure Fits (s : GShip) : Prop where
 n1 : 1 ≤ s.Stations.length
 n6 : s.Stations.length ≤ 6
 fit : ∀ i, i < s.Stations.length → Fit s.Stations[i]!
 n8 : ∀ i, i < s.Stations.length → s.Stations[i]!.Levels.length ≤ 8
 len : 1 ≤ s.Length ∧ s.Length ≤ 1000000
 lds : qQh s = 0
theorem qBq {l : List jJy} {i : Nat} (h : jH5 l i = 0) : jY0 l[i]! = 0 ∧ jKz l[i]! = 0 := by
 unfold jH5 jLc at h
 split at h
 ·rename_i hp
  refine ⟨hp, ?_⟩
  split at h
  ·exact h
  ·split at h
   ·exact h
   ·rename_i hn; exact absurd h hn
 ·rename_i hp; exact absurd h hp
theorem Fits.of {s : GShip} (ht : qG6 s) (h : jMt s = 0) : Fits s := by
 unfold jMt at h
 split at h
 ·split at h
  ·rename_i hl
   rw [Bool.and_eq_true, jN1, jN1] at hl
   split at h
   ·rename_i hz
    have hf : ∀ i, i < s.Stations.length → Fit s.Stations[i]! := fun i hi => by
     have := qBq (jHe hz i (by omega) (by omega))
     exact Fit.of this.1 this.2
    refine ⟨by omega, ?_, hf, fun i hi => ?_, hl.1, h⟩
    ·have := ht.s6; omega
    ·have := ht.l8 i hi; have := (hf i hi).n3; omega
   ·rename_i hz; exact absurd h hz
  ·cases h
 ·cases h
section
variable (s : GShip) (p q : Rat)
def yT (i : Nat) : Rat := ySet p q s.Stations[i]!.X
def wT (i : Nat) : Rat := (s.Stations[i]!.Width : Int)
def xT (i : Nat) : Rat := (s.Stations[i]!.X : Int)
def aT (i : Nat) : Rat := qXx s.Stations[i]! (yT s p q i)
def mT (i : Nat) : Rat := momQ s.Stations[i]! (yT s p q i)
def bT (i : Nat) : Rat := (qXw s.Stations[i]! (yT s p q i) : Int)
def tV (i : Nat) : Rat := wT s i * aT s p q i
def tX (i : Nat) : Rat := wT s i * aT s p q i * xT s i
def tZ (i : Nat) : Rat := wT s i * mT s p q i
def tA (i : Nat) : Rat := ((2 : Int) : Rat) * bT s p q i * wT s i
def tF (i : Nat) : Rat := tA s p q i * xT s i
def tC (i : Nat) : Rat := ((2 : Int) : Rat) * bT s p q i * bT s p q i * bT s p q i * wT s i / ((3 : Int) : Rat)
def tL (i : Nat) : Rat := tA s p q i * xT s i * xT s i
def hyS (i : Nat) : jJz := ⟨R (jG9 (tV s p q) i), jNd, R (jG9 (tX s p q) i), R (jG9 (tZ s p q) i), R (jG9 (tA s p q) i), R (jG9 (tF s p q) i), R (jG9 (tC s p q) i), R (jG9 (tL s p q) i), jNd⟩
end
section
variable {s : GShip} {p q : Rat} {i : Nat}
theorem Fits.wSz (h : Fits s) (hi : i < s.Stations.length) : Sz 64 (wT s i) := by have := h.fit i hi; have := this.w0; have := (h.fit i hi).w1; exact Sz.i64 (by omega) (by omega)
theorem Fits.xSz (h : Fits s) (hi : i < s.Stations.length) : Sz 64 (xT s i) := by have := (h.fit i hi).x0; have := (h.fit i hi).x1; exact Sz.i64 (by omega) (by omega)
theorem Fits.bSz (h : Fits s) (hi : i < s.Stations.length) : Sz 64 (bT s p q i) := by have := (h.fit i hi).half (yT s p q i); exact Sz.i64 (by omega) (by omega)
variable {K : Nat} (hK : K ≤ 1000) (hy : ∀ i, i < s.Stations.length → Sz K (yT s p q i))
include hK hy
theorem Fits.aSz (h : Fits s) (hi : i < s.Stations.length) : Sz 9000 (aT s p q i) := by
 have h1 := h.fit i hi; have h2 := h.n8 i hi; have h3 := h1.nh
 exact jFr (c := K + 192) (fun k hk => h1.arSz (hy i hi) hk) (Nat.le_refl _) (Nat.le_trans (Nat.mul_le_mul (show K + 192 ≤ 1192 by omega) (show _ ≤ 7 by omega)) (by omega))
theorem Fits.mSz (h : Fits s) (hi : i < s.Stations.length) : Sz 17000 (mT s p q i) := by
 have h1 := h.fit i hi; have h2 := h.n8 i hi; have h3 := h1.nh
 exact jFr (c := 2 * K + 384) (fun k hk => h1.moSz (hy i hi) hk) (Nat.le_refl _) (Nat.le_trans (Nat.mul_le_mul (show 2 * K + 384 ≤ 2384 by omega) (show _ ≤ 7 by omega)) (by omega))
theorem Fits.vSz (h : Fits s) (hi : i < s.Stations.length) : Sz 9064 (tV s p q i) := ((h.wSz hi).mul (h.aSz hK hy hi)).mono (by omega)
theorem Fits.xxSz (h : Fits s) (hi : i < s.Stations.length) : Sz 9128 (tX s p q i) := ((h.vSz hK hy hi).mul (h.xSz hi)).mono (by omega)
theorem Fits.zSz (h : Fits s) (hi : i < s.Stations.length) : Sz 17064 (tZ s p q i) := ((h.wSz hi).mul (h.mSz hK hy hi)).mono (by omega)
omit hK hy in
theorem Fits.arSz' (h : Fits s) (hi : i < s.Stations.length) : Sz 192 (tA s p q i) := (((Sz.i64 (z := 2) (by omega) (by omega)).mul (h.bSz hi)).mul (h.wSz hi)).mono (by omega)
omit hK hy in
theorem Fits.fSz (h : Fits s) (hi : i < s.Stations.length) : Sz 256 (tF s p q i) := ((h.arSz' hi).mul (h.xSz hi)).mono (by omega)
omit hK hy in
theorem Fits.lSz (h : Fits s) (hi : i < s.Stations.length) : Sz 320 (tL s p q i) := ((h.fSz hi).mul (h.xSz hi)).mono (by omega)
omit hK hy in
theorem Fits.c0Sz (h : Fits s) (hi : i < s.Stations.length) : Sz 320 (((2 : Int) : Rat) * bT s p q i * bT s p q i * bT s p q i * wT s i) := (((((Sz.i64 (z := 2) (by omega) (by omega)).mul (h.bSz hi)).mul (h.bSz hi)).mul (h.bSz hi)).mul (h.wSz hi)).mono (by omega)
omit hK hy in
theorem Fits.cSz (h : Fits s) (hi : i < s.Stations.length) : Sz 384 (tC s p q i) := ((h.c0Sz hi).div (Sz.i64 (z := 3) (by omega) (by omega))).mono (by omega)
theorem Fits.szV (h : Fits s) (hi : i ≤ s.Stations.length) : Sz 55000 (jG9 (tV s p q) i) := jFr (fun k hk => h.vSz hK hy hk) hi (Nat.le_trans (Nat.mul_le_mul_left _ h.n6) (by omega))
theorem Fits.szX (h : Fits s) (hi : i ≤ s.Stations.length) : Sz 55000 (jG9 (tX s p q) i) := jFr (fun k hk => h.xxSz hK hy hk) hi (Nat.le_trans (Nat.mul_le_mul_left _ h.n6) (by omega))
theorem Fits.szZ (h : Fits s) (hi : i ≤ s.Stations.length) : Sz 103000 (jG9 (tZ s p q) i) := jFr (fun k hk => h.zSz hK hy hk) hi (Nat.le_trans (Nat.mul_le_mul_left _ h.n6) (by omega))
omit hK hy in
theorem Fits.szA (h : Fits s) (hi : i ≤ s.Stations.length) : Sz 1200 (jG9 (tA s p q) i) := jFr (fun k hk => h.arSz' hk) hi (Nat.le_trans (Nat.mul_le_mul_left _ h.n6) (by omega))
omit hK hy in
theorem Fits.szF (h : Fits s) (hi : i ≤ s.Stations.length) : Sz 1600 (jG9 (tF s p q) i) := jFr (fun k hk => h.fSz hk) hi (Nat.le_trans (Nat.mul_le_mul_left _ h.n6) (by omega))
omit hK hy in
theorem Fits.szC (h : Fits s) (hi : i ≤ s.Stations.length) : Sz 2400 (jG9 (tC s p q) i) := jFr (fun k hk => h.cSz hk) hi (Nat.le_trans (Nat.mul_le_mul_left _ h.n6) (by omega))
omit hK hy in
theorem Fits.szL (h : Fits s) (hi : i ≤ s.Stations.length) : Sz 2000 (jG9 (tL s p q) i) := jFr (fun k hk => h.lSz hk) hi (Nat.le_trans (Nat.mul_le_mul_left _ h.n6) (by omega))
theorem qUb {N k : Nat} {a : GAttitude} (h : Fits s) (h1 : Qf k a.Sink p) (h2 : Qf k a.Slope q) (hk : k ≤ 1000) (hN : 2 ^ 64 ≤ N) : jQ1 (jZv N s a) N (hyS s p q 0, 0) = some (hyS s p q s.Stations.length) := by
 have h6 := h.n6
 refine jNy (f := jZv N s a) s.Stations.length (hyS s p q) (hyS s p q s.Stations.length) (fun i hi => ?_) ?_ N (by omega)
 ·have hf := h.fit i hi
  have x0 := hf.x0; have x1 := hf.x1; have w0 := hf.w0; have w1 := hf.w1; have hb := hf.half (yT s p q i)
  have hyi := hy i hi
  have zw := h.wSz hi; have zx := h.xSz hi; have za := h.aSz hK hy hi; have zm := h.mSz hK hy hi; have zb := h.bSz (p := p) (q := q) hi
  have z2 : Sz 64 ((2 : Int) : Rat) := Sz.i64 (by omega) (by omega)
  have z3 : Sz 64 ((3 : Int) : Rat) := Sz.i64 (by omega) (by omega)
  have hi' : i ≤ s.Stations.length := by omega
  unfold jZv hyS
  simp only [jQk]
  rw [dT (by omega), cnT, jNc hi, bS, qG7 h1 h2 (by omega) (by omega) (by omega) hN, bS, jWw (by omega) (by omega) hN, bS, jWw (by omega) (by omega) hN, bS,
   show ySet p q s.Stations[i]!.X = yT s p q i from rfl, qQe hf hyi (by omega) hN, bS,
   show qXx s.Stations[i]! (yT s p q i) = aT s p q i from rfl, show momQ s.Stations[i]! (yT s p q i) = mT s p q i from rfl, show ((s.Stations[i]!.Width : Int) : Rat) = wT s i from rfl, show ((s.Stations[i]!.X : Int) : Rat) = xT s i from rfl]
  rw [jAj (Qf.R zw) (Qf.R za) zw za (by omega) hN, bS, show wT s i * aT s p q i = tV s p q i from rfl, jYg (Qf.R (h.szV hK hy hi')) (Qf.R (h.vSz hK hy hi)) (by omega) hN, bS,
   qZl (Qf.R zw) (Qf.R za) (Qf.R zx) zw za zx (by omega) hN, bS, show wT s i * aT s p q i * xT s i = tX s p q i from rfl, jYg (Qf.R (h.szX hK hy hi')) (Qf.R (h.xxSz hK hy hi)) (by omega) hN, bS,
   jAj (Qf.R zw) (Qf.R zm) zw zm (by omega) hN, bS, show wT s i * mT s p q i = tZ s p q i from rfl, jYg (Qf.R (h.szZ hK hy hi')) (Qf.R (h.zSz hK hy hi)) (by omega) hN, bS,
   qVu hf hyi (by omega) hN, bS, jWw (by omega) (by omega) hN, bS, show ((qXw s.Stations[i]! (yT s p q i) : Int) : Rat) = bT s p q i from rfl, jWw (by omega) (by omega) hN, bS,
   qZl (Qf.R z2) (Qf.R zb) (Qf.R zw) z2 zb zw (by omega) hN, bS, show ((2 : Int) : Rat) * bT s p q i * wT s i = tA s p q i from rfl, jYg (Qf.R (h.szA hi')) (Qf.R (h.arSz' hi)) (by omega) hN, bS,
   jAj (Qf.R (h.arSz' hi)) (Qf.R zx) (h.arSz' hi) zx (by omega) hN, bS, show tA s p q i * xT s i = tF s p q i from rfl, jYg (Qf.R (h.szF hi')) (Qf.R (h.fSz hi)) (by omega) hN, bS,
   bS, times5 (Qf.R z2) (Qf.R zb) (Qf.R zw) z2 zb zw (by omega) hN, bS, jWw (by omega) (by omega) hN, bS,
   jMm (Qf.R (h.c0Sz hi)) (Qf.R z3) (by omega) (by exact jUw (by omega)) hN, bS, show ((2 : Int) : Rat) * bT s p q i * bT s p q i * bT s p q i * wT s i / ((3 : Int) : Rat) = tC s p q i from rfl, jYg (Qf.R (h.szC hi')) (Qf.R (h.cSz hi)) (by omega) hN, bS,
   qZl (Qf.R (h.arSz' hi)) (Qf.R zx) (Qf.R zx) (h.arSz' hi) zx zx (by omega) hN, bS, show tA s p q i * xT s i * xT s i = tL s p q i from rfl, jYg (Qf.R (h.szL hi')) (Qf.R (h.lSz hi)) (by omega) hN, bS, jLn (by omega)]
  rfl
 ·unfold jZv
  simp only [jQk]
  rw [dF (by omega)]; rfl
end
section
variable (s : GShip) (p q : Rat)
def vQ : Rat := jG9 (tV s p q) s.Stations.length
def xQ : Rat := jG9 (tX s p q) s.Stations.length
def zQ' : Rat := jG9 (tZ s p q) s.Stations.length
def wpQ : Rat := jG9 (tA s p q) s.Stations.length
def fQ : Rat := jG9 (tF s p q) s.Stations.length
def cQ : Rat := jG9 (tC s p q) s.Stations.length
def lQ : Rat := jG9 (tL s p q) s.Stations.length
def qG1 : Rat := if wpQ s p q = 0 then 0 else fQ s p q / wpQ s p q
def lonQ : Rat := if wpQ s p q = 0 then 0 else lQ s p q - wpQ s p q * qG1 s p q * qG1 s p q
def qZx (d : Int) : jJz := ⟨R (vQ s p q), R (kgQ (vQ s p q) d), R (xQ s p q / vQ s p q), R (zQ' s p q / vQ s p q), R (wpQ s p q), R (qG1 s p q), R (cQ s p q), R (lonQ s p q), R (zQ' s p q / vQ s p q + cQ s p q / vQ s p q)⟩
def qH4 : jJz := ⟨jNd, jNd, jNd, jNd, jNd, jNd, jNd, jNd, jNd⟩
end
theorem hyd_eq {N k K : Nat} {s : GShip} {p q : Rat} {a : GAttitude} {d : Int} (h : Fits s) (h1 : Qf k a.Sink p) (h2 : Qf k a.Slope q) (hk : k ≤ 1000) (hK : K ≤ 1000) (hy : ∀ i, i < s.Stations.length → Sz K (yT s p q i)) (g0 : -9223372036854775808 ≤ d) (g1 : d ≤ 9223372036854775807) (hN : 2 ^ 64 ≤ N) :
    jV8 N s a d = some (if vQ s p q = 0 then (qH4, false) else (qZx s p q d, true)) := by
  unfold jV8
  have sV : Sz 55000 (vQ s p q) := h.szV hK hy (Nat.le_refl _)
  have sX : Sz 55000 (xQ s p q) := h.szX hK hy (Nat.le_refl _)
  have sZ : Sz 103000 (zQ' s p q) := h.szZ hK hy (Nat.le_refl _)
  have sA : Sz 1200 (wpQ s p q) := h.szA (Nat.le_refl _)
  have sF : Sz 1600 (fQ s p q) := h.szF (Nat.le_refl _)
  have sC : Sz 2400 (cQ s p q) := h.szC (Nat.le_refl _)
  have sL : Sz 2000 (lQ s p q) := h.szL (Nat.le_refl _)
  rw [jWw (by omega) (by omega) hN, bS]
  rw [show jQ1 (jZv N s a) N ((⟨R ((0 : Int) : Rat), ⟨⟨false, []⟩, ⟨false, []⟩⟩, R ((0 : Int) : Rat), R ((0 : Int) : Rat), R ((0 : Int) : Rat), R ((0 : Int) : Rat), R ((0 : Int) : Rat), R ((0 : Int) : Rat), ⟨⟨false, []⟩, ⟨false, []⟩⟩⟩ : jJz), 0) = some (hyS s p q s.Stations.length) from qUb hK hy h h1 h2 hk hN, bS]
  rw [show hyS s p q s.Stations.length = (⟨R (vQ s p q), jNd, R (xQ s p q), R (zQ' s p q), R (wpQ s p q), R (fQ s p q), R (cQ s p q), R (lQ s p q), jNd⟩ : jJz) from rfl]
  dsimp only
  rw [jCt (Qf.R sV) (by omega) hN, bS]
  by_cases hV : vQ s p q = 0
  · rw [dT hV, cnT, if_pos hV]; rfl
  · rw [dF hV, cnF, if_neg hV, qY6 (Qf.R sV) sV (by omega) g0 g1 hN, bS, jMm (Qf.R sX) (Qf.R sV) (by omega) hV hN, bS, jMm (Qf.R sZ) (Qf.R sV) (by omega) hV hN, bS, jCt (Qf.R sA) (by omega) hN, bS]
    by_cases hA : wpQ s p q = 0
    · rw [dT hA, cnT, bS, bS, bS]
      dsimp only
      rw [jMm (Qf.R sC) (Qf.R sV) (by omega) hV hN, bS, jYg (Qf.R (sZ.div sV)) (Qf.R (sC.div sV)) (by omega) hN, bS]
      unfold qZx qG1 lonQ
      rw [if_pos hA, if_pos hA]; rfl
    · have eF : qG1 s p q = fQ s p q / wpQ s p q := by unfold qG1; rw [if_neg hA]
      have zF := sF.div sA
      rw [dF hA, cnF, jMm (Qf.R sF) (Qf.R sA) (by omega) hA hN, bS, ← eF]
      rw [← eF] at zF
      rw [qZl (Qf.R sA) (Qf.R zF) (Qf.R zF) sA zF zF (by omega) hN, bS, jLk (Qf.R sL) (Qf.R ((sA.mul zF).mul zF)) (by omega) hN, bS, bS]
      dsimp only
      rw [jMm (Qf.R sC) (Qf.R sV) (by omega) hV hN, bS, jYg (Qf.R (sZ.div sV)) (Qf.R (sC.div sV)) (by omega) hN, bS]
      unfold qZx
      rw [show lonQ s p q = lQ s p q - wpQ s p q * qG1 s p q * qG1 s p q by unfold lonQ; rw [if_neg hA]]
end Go.KB
namespace Go.KB
set_option linter.unusedVariables false
set_option maxRecDepth 100000
def jMs (d : Int) : Int := if inR 900 1100 d = true then 0 else 2
theorem qHd {N : Nat} {d : Int} : jYx N d = some (jMs d) := by
 unfold jYx jMs
 rw [jGu, bS]
 cases inR 900 1100 d <;> rfl
theorem qQ8 {d : Int} (h : jMs d = 0) : 900 ≤ d ∧ d ≤ 1100 := by
 unfold jMs at h
 split at h
 ·rename_i hd; rwa [jN1] at hd
 ·cases h
def jRb (s : GShip) (d : Int) : Int := if jMt s = 0 then jMs d else jMt s
theorem jAq {N : Nat} {s : GShip} {d : Int} (ht : qG6 s) (hN : 2 ^ 64 ≤ N) : jW6 N s d = some (jRb s d) := by
 unfold jW6 jRb
 rw [qKt ht hN, bS, jVw, qHd, bS]
 by_cases h : jMt s = 0
 ·rw [dT h, if_pos h]; rfl
 ·rw [dF h, if_neg h]; rfl
theorem both_ok {s : GShip} {d : Int} (h : jRb s d = 0) : jMt s = 0 ∧ jMs d = 0 := by
 unfold jRb at h
 split at h
 ·rename_i hs; exact ⟨hs, h⟩
 ·rename_i hs; exact absurd h hs
def Len (x : jQv) : Prop := x.Num.Limbs.length < 1000000 ∧ x.Den.Limbs.length < 1000000
theorem Fits.y32 {s : GShip} {p q : Rat} {a : GAttitude} {k : Nat} (h : Fits s) (h1 : Qf k a.Sink p) (h2 : Qf k a.Slope q) : ∀ i, i < s.Stations.length → Sz (2 * k + 98) (yT s p q i) := fun i hi => by
 have := (h.fit i hi).x0; have := (h.fit i hi).x1
 exact ySz h1 h2 (by omega) (by omega)
theorem Hyd_eq {N k : Nat} {s : GShip} {p q : Rat} {a : GAttitude} {d : Int} (ht : qG6 s) (h1 : Qf k a.Sink p) (h2 : Qf k a.Slope q) (hk : k ≤ 400) (hN : 2 ^ 64 ≤ N) :
  jWq N s a d = some (if jRb s d = 0 then (if vQ s p q = 0 then (qH4, 29) else (qZx s p q d, 0)) else (qH4, jRb s d)) := by
 unfold jWq
 rw [jAq ht hN, bS, jVw]
 by_cases hb : jRb s d = 0
 ·obtain ⟨hs, hd⟩ := both_ok hb
  have hf := Fits.of ht hs
  have hd := qQ8 hd
  rw [dT hb, if_pos hb, Bool.not_true, cnF, hyd_eq hf h1 h2 (by omega) (K := 2 * k + 98) (by omega) (hf.y32 h1 h2) (by omega) (by omega) hN, bS]
  by_cases hV : vQ s p q = 0
  ·rw [if_pos hV, if_pos hV]; rfl
  ·rw [if_neg hV, if_neg hV]; rfl
 ·rw [dF hb, if_neg hb]; rfl
section
variable {s : GShip} {p q : Rat} {K : Nat} (hK : K ≤ 1000) (hy : ∀ i, i < s.Stations.length → Sz K (yT s p q i))
include hK hy
end
end Go.KB
namespace Go.KB
set_option linter.unusedVariables false
theorem jCr {N : Nat} {x : jQv} (hx : x.ok) : ∃ b, jB3 N x 3 = some b ∧ (b = true → Qf 32 x (rv x)) := by
 refine ⟨_, rfl, fun h => ?_⟩
 simp only [jD5, Bool.and_eq_true, decide_eq_true_eq] at h
 exact Qf.raw hx (by omega) (by omega)
theorem att_eq {N : Nat} {a : GAttitude} (ha : a.ok) : ∃ b, jHs N a = some b ∧ (b = true → Qf 32 a.Sink (rv a.Sink) ∧ Qf 32 a.Slope (rv a.Slope)) := by
 obtain ⟨h1, h2, _⟩ := ha
 obtain ⟨b1, e1, k1⟩ := jCr (N := N) h1
 obtain ⟨b2, e2, k2⟩ := jCr (N := N) h2
 unfold jHs
 rw [e1, bS]
 cases b1 with
 | false => exact ⟨false, rfl, fun h => by cases h⟩
 | true =>
  rw [cnT, e2]
  exact ⟨b2, by cases b2 <;> rfl, fun h => ⟨k1 rfl, k2 h⟩⟩
end Go.KB
