/- Plain laws: what is immersed of a station, of the program. Plain laws: the hydrostatics that the program computes. Plain laws: errors of densities, the answer of Hydrostatics. Plain laws: attitudes with short numbers. No condition. -/
import Derived.Test.YtoiefhkiipolmaaGreatPZd
import Derived.Test.YtoiefhkiipolmaaGreatPZb
namespace Go.KB
set_option linter.unusedVariables false
set_option maxRecDepth 100000
def jKh (f : Nat → Rat) : Nat → Rat
 | 0 => 0
 | n + 1 => jKh f n + f n
theorem jFu {f g : Nat → Rat} : ∀ {n : Nat}, (∀ k, k < n → f k = g k) → jKh f n = jKh g n := by
 intro n
 induction n with
 | zero => intro _; rfl
 | succ n ih => intro h; rw [jKh, jKh, ih (fun k hk => h k (by omega)), h n (by omega)]
theorem jAg {f : Nat → Rat} {i : Nat} : ∀ {n : Nat}, i ≤ n → (∀ k, i ≤ k → k < n → f k = 0) → jKh f n = jKh f i := by
  intro n
  induction n with
  | zero => intro h _; obtain rfl : i = 0 := by omega
            rfl
  | succ n ih =>
    intro h hz
    rcases Nat.eq_or_lt_of_le h with rfl | h
    · rfl
    · rw [jKh, ih (by omega) (fun k h1 h2 => hz k h1 (by omega)), hz n (by omega) (by omega), Rat.add_zero]
theorem sumSz {f : Nat → Rat} {c : Nat} : ∀ {n : Nat}, (∀ k, k < n → Sz c (f k)) → Sz (c * n) (jKh f n) := by
 intro n
 induction n with
 | zero => intro _; exact Sz.zero
 | succ n ih => intro h; exact ((ih (fun k hk => h k (by omega))).add (h n (by omega))).mono (by rw [Nat.mul_succ]; exact Nat.le_refl _)
theorem jPy {f : Nat → Rat} {c n i m : Nat} (h : ∀ k, k < n → Sz c (f k)) (hi : i ≤ n) (hm : c * n ≤ m) : Sz m (jKh f i) :=
 (sumSz (fun k hk => h k (by omega))).mono (Nat.le_trans (Nat.mul_le_mul_left c hi) hm)
structure Fit (t : jJu) : Prop where
 x0 : -1000000 ≤ t.X
 x1 : t.X ≤ 1000000
 w0 : 1 ≤ t.Width
 w1 : t.Width ≤ 100000
 n2 : 2 ≤ t.Levels.length
 n3 : t.Levels.length ≤ 30
 nh : t.Halves.length + 1 = t.Levels.length
 l0 : ∀ i, i < t.Levels.length → 0 ≤ t.Levels[i]! ∧ t.Levels[i]! ≤ 100000
 la : ∀ i, 0 < i → i < t.Levels.length → t.Levels[i - 1]! < t.Levels[i]!
 hb : ∀ i, i < t.Halves.length → 0 ≤ t.Halves[i]! ∧ t.Halves[i]! ≤ 100000
theorem jNt {a b n : Int} : inR a b n = true ↔ a ≤ n ∧ n ≤ b := by unfold inR; simp
theorem Fit.of {t : jJu} (h1 : jKj t = 0) (h2 : jKx t = 0) : Fit t := by
  unfold jKj at h1
  split at h1
  · rename_i hp
    rw [jNt, jNt] at hp
    unfold jKx at h2
    split at h2
    · cases h2
    · rename_i hn
      split at h2
      · rename_i hl
        have h3 : ∀ i, i < t.Levels.length → (0 ≤ t.Levels[i]! ∧ t.Levels[i]! ≤ 100000) ∧ ¬(0 < i ∧ t.Levels[i]! ≤ t.Levels[i - 1]!) := fun i hi => by
          have := jGn hl i (by omega) (by omega)
          unfold jP5 at this
          split at this
          · rename_i h4
            rw [jNt] at h4
            split at this
            · cases this
            · rename_i h5; exact ⟨h4, h5⟩
          · cases this
        refine ⟨by omega, by omega, by omega, by omega, by omega, by omega, by omega, fun i hi => (h3 i hi).1, fun i h0 hi => ?_, fun i hi => ?_⟩
        · have := (h3 i hi).2
          omega
        · have := jGn h2 i (by omega) (by omega)
          unfold qYk at this
          split at this
          · rename_i h4; rwa [jNt] at h4
          · cases this
      · rename_i hl; exact absurd h2 hl
  · cases h1
theorem Fit.asc {t : jJu} (h : Fit t) {i : Nat} : ∀ {j : Nat}, i ≤ j → j < t.Levels.length → t.Levels[i]! ≤ t.Levels[j]! := by
  intro j
  induction j with
  | zero => intro h1 _; obtain rfl : i = 0 := by omega
            omega
  | succ j ih =>
    intro h1 h2
    rcases Nat.eq_or_lt_of_le h1 with rfl | h1
    · omega
    · have h3 := ih (by omega) (by omega)
      have h4 := h.la (j + 1) (by omega) h2
      rw [Nat.add_sub_cancel] at h4
      omega
abbrev lvQ (t : jJu) (k : Nat) : Rat := (t.Levels[k]! : Int)
def qW8 (t : jJu) (y : Rat) (k : Nat) : Rat := if y < lvQ t (k + 1) then y else lvQ t (k + 1)
def qXk (t : jJu) (y : Rat) (k : Nat) : Rat := if y ≤ lvQ t k then 0 else qW8 t y k - lvQ t k
def arT (t : jJu) (y : Rat) (k : Nat) : Rat := ((2 * t.Halves[k]! : Int) : Rat) * qXk t y k
def moT (t : jJu) (y : Rat) (k : Nat) : Rat := arT t y k * (lvQ t k + qW8 t y k) / ((2 : Int) : Rat)
def jTd (t : jJu) (y : Rat) : Rat := jKh (arT t y) t.Halves.length
def momQ (t : jJu) (y : Rat) : Rat := jKh (moT t y) t.Halves.length
theorem Fit.lSz {t : jJu} (h : Fit t) {k : Nat} (hk : k < t.Levels.length) : Sz 64 (lvQ t k) := by have := h.l0 k hk; exact Sz.i64 (by omega) (by omega)
theorem Fit.topSz {t : jJu} {y : Rat} {K k : Nat} (h : Fit t) (hy : Sz K y) (hk : k < t.Halves.length) : Sz (K + 64) (qW8 t y k) := by
 unfold qW8
 have := h.nh
 split
 ·exact hy.mono (by omega)
 ·exact (h.lSz (by omega)).mono (by omega)
theorem Fit.partSz {t : jJu} {y : Rat} {K k : Nat} (h : Fit t) (hy : Sz K y) (hk : k < t.Halves.length) : Sz (K + 128) (qXk t y k) := by
 unfold qXk
 have := h.nh
 split
 ·exact Sz.zero.mono (by omega)
 ·exact ((h.topSz hy hk).sub (h.lSz (by omega))).mono (by omega)
theorem Fit.hSz {t : jJu} {k : Nat} (h : Fit t) (hk : k < t.Halves.length) : Sz 64 ((2 * t.Halves[k]! : Int) : Rat) := by have := h.hb k hk; exact Sz.i64 (by omega) (by omega)
theorem Fit.arSz {t : jJu} {y : Rat} {K k : Nat} (h : Fit t) (hy : Sz K y) (hk : k < t.Halves.length) : Sz (K + 192) (arT t y k) := ((h.hSz hk).mul (h.partSz hy hk)).mono (by omega)
theorem Fit.moSz {t : jJu} {y : Rat} {K k : Nat} (h : Fit t) (hy : Sz K y) (hk : k < t.Halves.length) : Sz (2 * K + 384) (moT t y k) := by
 have := h.nh
 exact (((h.arSz hy hk).mul ((h.lSz (k := k) (by omega)).add (h.topSz hy hk))).div (Sz.i64 (z := 2) (by omega) (by omega))).mono (by omega)
theorem Fit.dry {t : jJu} {y : Rat} {i k : Nat} (h : Fit t) (hi : y ≤ lvQ t i) (h1 : i ≤ k) (hk : k < t.Halves.length) : y ≤ lvQ t k := by
 have := h.nh
 have := h.asc h1 (by omega)
 have h2 : lvQ t i ≤ lvQ t k := by exact_mod_cast this
 grind
theorem qYl {t : jJu} {y : Rat} {k : Nat} (h : y ≤ lvQ t k) : arT t y k = 0 := by unfold arT qXk; rw [if_pos h]; grind
theorem qB3 {t : jJu} {y : Rat} {k : Nat} (h : y ≤ lvQ t k) : moT t y k = 0 := by unfold moT; rw [qYl h]; simp [Rat.div_def]
theorem qX2 {N K : Nat} {t : jJu} {y : Rat} (h : Fit t) (hy : Sz K y) (hK : K ≤ 10000) (hN : 2 ^ 64 ≤ N) : jYg N t (R y) = some ⟨R (jTd t y), R (momQ t y)⟩ := by
  unfold jYg
  have hn := h.nh; have hn3 := h.n3
  rw [jUj (by omega) (by omega) hN, bS, bS]
  have hb1 : (K + 192) * t.Halves.length ≤ 400000 := Nat.le_trans (Nat.mul_le_mul (show K + 192 ≤ 10200 by omega) (show t.Halves.length ≤ 30 by omega)) (by omega)
  have hb2 : (2 * K + 384) * t.Halves.length ≤ 800000 := Nat.le_trans (Nat.mul_le_mul (show 2 * K + 384 ≤ 20400 by omega) (show t.Halves.length ≤ 30 by omega)) (by omega)
  have := jH8 (f := jW2 N t (R y)) (fun s => ∃ i : Nat, s = ((⟨R (jKh (arT t y) i), R (jKh (moT t y) i)⟩ : jJp), (i : Int)) ∧ i ≤ t.Halves.length) (fun s => t.Halves.length - s.2.toNat) (⟨R (jTd t y), R (momQ t y)⟩ : jJp) (by
    rintro s ⟨i, rfl, hi⟩
    unfold jW2
    simp only [jQy, jD2]
    by_cases hlt : i < t.Halves.length
    · have hl1 := h.l0 i (by omega); have hl2 := h.l0 (i + 1) (by omega); have hh := h.hb i hlt
      have z1 := h.lSz (k := i) (by omega); have z2 := h.lSz (k := i + 1) (by omega)
      have zt := h.topSz hy hlt
      rw [dT (by omega), cnT, jP3 hlt, bS, jP3 (by omega), bS, jUj (by omega) (by omega) hN, bS, jLn (by omega), jP3 (by omega), bS, jUj (by omega) (by omega) hN, bS,
        qXl (Qf.R hy) (Qf.R z1) (by omega) hN, bS, qU2]
      by_cases hd : y ≤ lvQ t i
      · right
        rw [dT hd, cnT]
        show some (Sum.inr (⟨R (jKh (arT t y) i), R (jKh (moT t y) i)⟩ : jJp)) = _
        unfold jTd momQ
        rw [jAg hi (fun k h1 h2 => qYl (h.dry hd h1 h2)), jAg hi (fun k h1 h2 => qB3 (h.dry hd h1 h2))]
      · left
        have ht : ((jZn N (R y) (R (lvQ t (i + 1)))).bind fun v10 => bif decide (v10 < 0) then (some (R y)) else (some (R (lvQ t (i + 1))))) = some (R (qW8 t y i)) := by
          rw [qXl (Qf.R hy) (Qf.R z2) (by omega) hN, bS, qDn]
          unfold qW8
          by_cases hc : y < lvQ t (i + 1)
          · rw [dT hc, if_pos hc]; rfl
          · rw [dF hc, if_neg hc]; rfl
        have hp : arT t y i = ((2 * t.Halves[i]! : Int) : Rat) * (qW8 t y i - lvQ t i) := by unfold arT qXk; rw [if_neg hd]
        have zp := h.arSz hy hlt
        have s1 := jPy (c := K + 192) (i := i) (fun k hk => h.arSz hy hk) hi hb1
        have s2 := jPy (c := 2 * K + 384) (i := i) (fun k hk => h.moSz hy hk) hi hb2
        rw [dF hd, cnF, ht, bS, w64 (by omega) (by omega), jUj (by omega) (by omega) hN, bS, qQ7 (Qf.R zt) (Qf.R z1) (by omega) hN, bS, jA2 (Qf.R (h.hSz hlt)) (Qf.R (zt.sub z1)) (h.hSz hlt) (zt.sub z1) (by omega) hN, bS, ← hp,
          jH6 (Qf.R s1) (Qf.R zp) (by omega) hN, bS, jH6 (Qf.R z1) (Qf.R zt) (by omega) hN, bS, jA2 (Qf.R zp) (Qf.R (z1.add zt)) zp (z1.add zt) (by omega) hN, bS, jUj (by omega) (by omega) hN, bS,
          qZj (Qf.R (zp.mul (z1.add zt))) (Qf.R (k := 64) (Sz.i64 (by omega) (by omega))) (by omega) (by exact jY8 (by omega)) hN, bS, show arT t y i * (lvQ t i + qW8 t y i) / ((2 : Int) : Rat) = moT t y i from rfl]
        rw [jH6 (Qf.R s2) (Qf.R (h.moSz hy hlt)) (by omega) hN, bS]
        exact ⟨_, rfl, ⟨i + 1, rfl, by omega⟩, by simp; omega⟩
    · right
      obtain rfl : i = t.Halves.length := by omega
      rw [dF (by omega)]; rfl) N (⟨R 0, R 0⟩, 0) ⟨0, rfl, by omega⟩ (by simp; omega)
  rw [show jQ7 (jW2 N t (R y)) N ((⟨R ((0 : Int) : Rat), R ((0 : Int) : Rat)⟩ : jJp), 0) = _ from this]; rfl
def haT (t : jJu) (y : Rat) (k : Nat) : Int := if lvQ t k ≤ y ∧ y < lvQ t (k + 1) then t.Halves[k]! + 1 else 0
def qGf (t : jJu) (y : Rat) : Int := if jXw (haT t y) t.Halves.length 0 = 0 then 0 else jXw (haT t y) t.Halves.length 0 - 1
theorem qQc {e : Nat → Int} {p : Int → Prop} (h0 : p 0) : ∀ {k i : Nat}, (∀ j, i ≤ j → j < i + k → p (e j)) → p (jXw e k i) := by
 intro k
 induction k with
 | zero => intro i _; exact h0
 | succ k ih =>
  intro i h
  rw [jXw]
  split
  ·exact ih (fun j h1 h2 => h j (by omega) (by omega))
  ·exact h i (by omega) (by omega)
theorem Fit.half {t : jJu} (h : Fit t) (y : Rat) : 0 ≤ qGf t y ∧ qGf t y ≤ 100000 := by
 have := qQc (e := haT t y) (p := fun z => 0 ≤ z ∧ z ≤ 100001) (by omega) (k := t.Halves.length) (i := 0) (fun j _ hj => by
  have := h.hb j (by omega)
  unfold haT
  split <;> omega)
 unfold qGf
 split <;> omega
end Go.KB
namespace Go.KB
set_option linter.unusedVariables false
set_option maxRecDepth 100000
structure Fits (s : GShip) : Prop where
 n1 : 1 ≤ s.Stations.length
 n6 : s.Stations.length ≤ 6
 fit : ∀ i, i < s.Stations.length → Fit s.Stations[i]!
 n8 : ∀ i, i < s.Stations.length → s.Stations[i]!.Levels.length ≤ 8
 len : 1 ≤ s.Length ∧ s.Length ≤ 1000000
 lds : jRq s = 0
theorem qDt {l : List jJu} {i : Nat} (h : jBe l i = 0) : jKj l[i]! = 0 ∧ jKx l[i]! = 0 := by
 unfold jBe jMf at h
 split at h
 ·rename_i hp
  refine ⟨hp, ?_⟩
  split at h
  ·exact h
  ·split at h
   ·exact h
   ·rename_i hn; exact absurd h hn
 ·rename_i hp; exact absurd h hp
theorem Fits.of {s : GShip} (ht : Tame s) (h : jMr s = 0) : Fits s := by
 unfold jMr at h
 split at h
 ·split at h
  ·rename_i hl
   rw [Bool.and_eq_true, jNt, jNt] at hl
   split at h
   ·rename_i hz
    have hf : ∀ i, i < s.Stations.length → Fit s.Stations[i]! := fun i hi => by
     have := qDt (jGn hz i (by omega) (by omega))
     exact Fit.of this.1 this.2
    refine ⟨by omega, ?_, hf, fun i hi => ?_, hl.1, h⟩
    ·have := ht.s6; omega
    ·have := ht.l8 i hi; have := (hf i hi).n3; omega
   ·rename_i hz; exact absurd h hz
  ·cases h
 ·cases h
section
variable (s : GShip) (p q : Rat)
def yT (i : Nat) : Rat := jP7 p q s.Stations[i]!.X
def wT (i : Nat) : Rat := (s.Stations[i]!.Width : Int)
def xT (i : Nat) : Rat := (s.Stations[i]!.X : Int)
def aT (i : Nat) : Rat := jTd s.Stations[i]! (yT s p q i)
def bT (i : Nat) : Rat := (qGf s.Stations[i]! (yT s p q i) : Int)
def tV (i : Nat) : Rat := wT s i * aT s p q i
def tA (i : Nat) : Rat := ((2 : Int) : Rat) * bT s p q i * wT s i
def tF (i : Nat) : Rat := tA s p q i * xT s i
def tL (i : Nat) : Rat := tA s p q i * xT s i * xT s i
end
section
variable {s : GShip} {p q : Rat} {i : Nat}
theorem Fits.wSz (h : Fits s) (hi : i < s.Stations.length) : Sz 64 (wT s i) := by have := h.fit i hi; have := this.w0; have := (h.fit i hi).w1; exact Sz.i64 (by omega) (by omega)
theorem Fits.xSz (h : Fits s) (hi : i < s.Stations.length) : Sz 64 (xT s i) := by have := (h.fit i hi).x0; have := (h.fit i hi).x1; exact Sz.i64 (by omega) (by omega)
theorem Fits.bSz (h : Fits s) (hi : i < s.Stations.length) : Sz 64 (bT s p q i) := by have := (h.fit i hi).half (yT s p q i); exact Sz.i64 (by omega) (by omega)
variable {K : Nat} (hK : K ≤ 1000) (hy : ∀ i, i < s.Stations.length → Sz K (yT s p q i))
include hK hy
theorem Fits.aSz (h : Fits s) (hi : i < s.Stations.length) : Sz 9000 (aT s p q i) := by
 have h1 := h.fit i hi; have h2 := h.n8 i hi; have h3 := h1.nh
 exact jPy (c := K + 192) (fun k hk => h1.arSz (hy i hi) hk) (Nat.le_refl _) (Nat.le_trans (Nat.mul_le_mul (show K + 192 ≤ 1192 by omega) (show _ ≤ 7 by omega)) (by omega))
theorem Fits.vSz (h : Fits s) (hi : i < s.Stations.length) : Sz 9064 (tV s p q i) := ((h.wSz hi).mul (h.aSz hK hy hi)).mono (by omega)
omit hK hy in
theorem Fits.arSz' (h : Fits s) (hi : i < s.Stations.length) : Sz 192 (tA s p q i) := (((Sz.i64 (z := 2) (by omega) (by omega)).mul (h.bSz hi)).mul (h.wSz hi)).mono (by omega)
omit hK hy in
theorem Fits.fSz (h : Fits s) (hi : i < s.Stations.length) : Sz 256 (tF s p q i) := ((h.arSz' hi).mul (h.xSz hi)).mono (by omega)
omit hK hy in
theorem Fits.lSz (h : Fits s) (hi : i < s.Stations.length) : Sz 320 (tL s p q i) := ((h.fSz hi).mul (h.xSz hi)).mono (by omega)
theorem Fits.szV (h : Fits s) (hi : i ≤ s.Stations.length) : Sz 55000 (jKh (tV s p q) i) := jPy (fun k hk => h.vSz hK hy hk) hi (Nat.le_trans (Nat.mul_le_mul_left _ h.n6) (by omega))
end
section
variable (s : GShip) (p q : Rat)
def vQ : Rat := jKh (tV s p q) s.Stations.length
end
end Go.KB
namespace Go.KB
set_option linter.unusedVariables false
set_option maxRecDepth 100000
def jMh (d : Int) : Int := if inR 900 1100 d = true then 0 else 2
theorem qB7 {N : Nat} {d : Int} : jYk N d = some (jMh d) := by
 unfold jYk jMh
 rw [jGb, bS]
 cases inR 900 1100 d <;> rfl
theorem qFq {d : Int} (h : jMh d = 0) : 900 ≤ d ∧ d ≤ 1100 := by
 unfold jMh at h
 split at h
 ·rename_i hd; rwa [jNt] at hd
 ·cases h
def jC9 (s : GShip) (d : Int) : Int := if jMr s = 0 then jMh d else jMr s
theorem qYz {N : Nat} {s : GShip} {d : Int} (ht : Tame s) (hN : 2 ^ 64 ≤ N) : jWg N s d = some (jC9 s d) := by
 unfold jWg jC9
 rw [jCk ht hN, bS, jV4, qB7, bS]
 by_cases h : jMr s = 0
 ·rw [dT h, if_pos h]; rfl
 ·rw [dF h, if_neg h]; rfl
def Len (x : jQv) : Prop := x.Num.Limbs.length < 1000000 ∧ x.Den.Limbs.length < 1000000
theorem Fits.y32 {s : GShip} {p q : Rat} {a : GAttitude} {k : Nat} (h : Fits s) (h1 : Qf k a.Sink p) (h2 : Qf k a.Slope q) : ∀ i, i < s.Stations.length → Sz (2 * k + 98) (yT s p q i) := fun i hi => by
 have := (h.fit i hi).x0; have := (h.fit i hi).x1
 exact ySz h1 h2 (by omega) (by omega)
section
variable {s : GShip} {p q : Rat} {K : Nat} (hK : K ≤ 1000) (hy : ∀ i, i < s.Stations.length → Sz K (yT s p q i))
include hK hy
end
end Go.KB
namespace Go.KB
set_option linter.unusedVariables false
theorem jA6 {N : Nat} {x : jQv} (hx : x.ok) : ∃ b, jDl N x 3 = some b ∧ (b = true → Qf 32 x (rv x)) := by
 refine ⟨_, rfl, fun h => ?_⟩
 simp only [jD2, Bool.and_eq_true, decide_eq_true_eq] at h
 exact Qf.raw hx (by omega) (by omega)
theorem att_eq {N : Nat} {a : GAttitude} (ha : a.ok) : ∃ b, jBf N a = some b ∧ (b = true → Qf 32 a.Sink (rv a.Sink) ∧ Qf 32 a.Slope (rv a.Slope)) := by
 obtain ⟨h1, h2, _⟩ := ha
 obtain ⟨b1, e1, k1⟩ := jA6 (N := N) h1
 obtain ⟨b2, e2, k2⟩ := jA6 (N := N) h2
 unfold jBf
 rw [e1, bS]
 cases b1 with
 | false => exact ⟨false, rfl, fun h => by cases h⟩
 | true =>
  rw [cnT, e2]
  exact ⟨b2, by cases b2 <;> rfl, fun h => ⟨k1 rfl, k2 h⟩⟩
end Go.KB
