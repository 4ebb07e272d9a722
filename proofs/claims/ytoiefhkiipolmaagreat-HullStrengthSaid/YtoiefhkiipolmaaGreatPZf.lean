/- Plain laws: volumes of the reference. Plain laws: errors of densities, hydrostatics that are the same. No condition. -/
import Derived.Test.YtoiefhkiipolmaaGreatPZe
import Derived.Test.YtoiefhkiipolmaaGreatPZh
namespace Go.KB
set_option linter.unusedVariables false
set_option maxRecDepth 100000
theorem qVu {N k : Nat} {x : jQv} {q : Rat} {d : Int} (h : Qf k x q) (hs : Sz k q) (hk : k ≤ 400000) (h0 : -9223372036854775807 ≤ d) (h1 : d ≤ 9223372036854775807) (hN : 2 ^ 64 ≤ N) : jHe N x d = some (R (kgQ q d)) := by
 unfold jHe kgQ
 have hd := Sz.i64 (z := d) (by omega) h1
 have he := Sz.i64 (z := 1000000000) (by omega) (by omega)
 rw [Q_R h0 h1 (by omega) (by omega) (by omega) hN, bS, jHs h (Qf.R (hd.div he)) (by omega) hN]
 show some (R _) = some (R _)
 congr 2
 have := jY8 (show (1000000000 : Int) ≠ 0 by omega)
 grind
theorem qJz {N k : Nat} {a : GAttitude} {p q : Rat} {x : Int} (h1 : Qf k a.Sink p) (h2 : Qf k a.Slope q) (hk : k ≤ 100000) (g0 : -9223372036854775808 ≤ x) (g1 : x ≤ 9223372036854775807) (hN : 2 ^ 64 ≤ N) : jVd N a x = some (R (jP7 p q x)) := by
 unfold jVd jP7
 have hd := Sz.i64 g0 g1
 rw [W_R g0 g1 hN, bS, jHs h2 (Qf.R hd) (by omega) hN, bS, jU1 h1 (Qf.R (h2.sz.mul hd)) (by omega) hN]; rfl
theorem qHv {N K : Nat} {y z : Rat} (hy : Sz K y) (hz : Sz K z) (hK : K ≤ 900000) (hN : 2 ^ 64 ≤ N) : jH7 N (R y) (R z) = some (R (if y < z then y else z)) := by
  unfold jH7
  rw [qWd (Qf.R hy) (Qf.R hz) (by omega) hN, bS, jD2, qU2]
  by_cases h : y ≤ z
  · rw [dT h, cnT, jKg (Qf.R hy) (by omega) hN, bS]
    by_cases h2 : y < z
    · rw [if_pos h2]
    · rw [if_neg h2, show y = z by grind]
  · rw [dF h, cnF, jKg (Qf.R hz) (by omega) hN, bS, if_neg (by grind)]
theorem qHu {q : Rat} : decide (qU5 q < 0) = decide (q < 0) := by
 unfold qU5
 by_cases h1 : q < 0
 ·rw [if_pos h1, dT h1]; rfl
 ·rw [if_neg h1, dF h1]
  split <;> rfl
theorem qG3 {N K k : Nat} {t : jJu} {y : Rat} (h : Fit t) (hy : Sz K y) (hK : K ≤ 10000) (hk : k < t.Halves.length) (hN : 2 ^ 64 ≤ N) : jDu N t (k : Int) (R y) = some (R (qXk t y k)) := by
 have hn := h.nh; have hn3 := h.n3
 have l1 := h.l0 k (by omega); have l2 := h.l0 (k + 1) (by omega)
 have z1 := h.lSz (k := k) (by omega); have z2 := h.lSz (k := k + 1) (by omega)
 have zt := h.topSz hy hk
 unfold jDu
 simp only [jQy]
 rw [jLn (by omega), jP3 (by omega), bS, W_R (by omega) (by omega) hN, bS, qHv (hy.mono (show K ≤ K + 64 by omega)) (z2.mono (show 64 ≤ K + 64 by omega)) (by omega) hN, bS, jP3 (by omega), bS, W_R (by omega) (by omega) hN, bS,
  show (if y < ((t.Levels[k + 1]! : Int) : Rat) then y else ((t.Levels[k + 1]! : Int) : Rat)) = qW8 t y k from rfl, jR1 (Qf.R zt) (Qf.R z1) (by omega) hN, bS, jTt (Qf.R (zt.sub z1)) (by omega) hN, bS, qHu]
 have hl : lvQ t k < lvQ t (k + 1) := by
  have := h.la (k + 1) (by omega) (by omega)
  rw [Nat.add_sub_cancel] at this
  exact_mod_cast this
 unfold qXk
 by_cases hd : y ≤ lvQ t k
 ·rw [if_pos hd]
  have ht : qW8 t y k = y := by unfold qW8; rw [if_pos (by grind)]
  rw [ht]
  by_cases hs : y - lvQ t k < 0
  ·rw [dT hs, cnT, W_R (by omega) (by omega) hN]; rfl
  ·rw [dF hs, cnF, show y - lvQ t k = 0 by grind]
 ·rw [if_neg hd]
  have hs : ¬(qW8 t y k - lvQ t k < 0) := by unfold qW8; split <;> grind
  rw [dF hs]; rfl
theorem qV2 {N K : Nat} {t : jJu} {y : Rat} (h : Fit t) (hy : Sz K y) (hK : K ≤ 10000) (hN : 2 ^ 64 ≤ N) : jHr N t (R y) = some (R (jTd t y)) := by
 have hn := h.nh; have hn3 := h.n3
 have hb1 : (K + 192) * t.Halves.length ≤ 400000 := Nat.le_trans (Nat.mul_le_mul (show K + 192 ≤ 10200 by omega) (show t.Halves.length ≤ 30 by omega)) (by omega)
 unfold jHr
 rw [W_R (by omega) (by omega) hN, bS]
 have := jLc (f := jYm N t (R y)) t.Halves.length (fun i => R (jKh (arT t y) i)) (R (jTd t y)) (fun i hi => by
  have hh := h.hb i hi
  have s1 := jPy (c := K + 192) (i := i) (fun k hk => h.arSz hy hk) (by omega) hb1
  unfold jYm
  simp only [jQy]
  rw [dT (by omega), cnT, jP3 hi, bS, w64 (by omega) (by omega), W_R (by omega) (by omega) hN, bS, qG3 h hy hK hi hN, bS, jHs (Qf.R (h.hSz hi)) (Qf.R (h.partSz hy hi)) (by omega) hN, bS,
   show ((2 * t.Halves[i]! : Int) : Rat) * qXk t y i = arT t y i from rfl, jU1 (Qf.R s1) (Qf.R (h.arSz hy hi)) (by omega) hN, bS, jLn (by omega)]; rfl) (by
  unfold jYm
  simp only [jQy]
  rw [dF (by omega)]; rfl) N (by omega)
 rw [show jQ7 (jYm N t (R y)) N (R ((0 : Int) : Rat), 0) = _ from this]; rfl
section
variable {s : GShip} {p q : Rat} {K : Nat} (hK : K ≤ 1000) (hy : ∀ i, i < s.Stations.length → Sz K (yT s p q i))
include hK hy
theorem qFj {N k : Nat} {a : GAttitude} (h : Fits s) (h1 : Qf k a.Sink p) (h2 : Qf k a.Slope q) (hk : k ≤ 1000) (hN : 2 ^ 64 ≤ N) : jG7 N s a = some (R (vQ s p q)) := by
 have h6 := h.n6
 unfold jG7
 rw [W_R (by omega) (by omega) hN, bS]
 have := jLc (f := jWj N s a) s.Stations.length (fun i => R (jKh (tV s p q) i)) (R (vQ s p q)) (fun i hi => by
  have hf := h.fit i hi
  have x0 := hf.x0; have x1 := hf.x1; have w0 := hf.w0; have w1 := hf.w1
  unfold jWj
  simp only [jQy]
  rw [dT (by omega), cnT, jP3 hi, bS, W_R (by omega) (by omega) hN, bS, qJz h1 h2 (by omega) (by omega) (by omega) hN, bS, show jP7 p q s.Stations[i]!.X = yT s p q i from rfl, qV2 hf (hy i hi) (by omega) hN, bS,
   show jTd s.Stations[i]! (yT s p q i) = aT s p q i from rfl, show ((s.Stations[i]!.Width : Int) : Rat) = wT s i from rfl, jHs (Qf.R (h.wSz hi)) (Qf.R (h.aSz hK hy hi)) (by omega) hN, bS, show wT s i * aT s p q i = tV s p q i from rfl, jU1 (Qf.R (h.szV hK hy (by omega))) (Qf.R (h.vSz hK hy hi)) (by omega) hN, bS, jLn (by omega)]; rfl) (by
  unfold jWj
  simp only [jQy]
  rw [dF (by omega)]; rfl) N (by omega)
 rw [show jQ7 (jWj N s a) N (R ((0 : Int) : Rat), 0) = _ from this]; rfl
end
end Go.KB
namespace Go.KB
set_option linter.unusedVariables false
set_option maxRecDepth 100000
theorem qVr {N : Nat} {d : Int} : jGx N d = some (jMh d) := by
 unfold jGx jMh
 rw [jHh, bS]
 cases inR 900 1100 d <;> rfl
theorem Len.R {k : Nat} {q : Rat} (h : Sz k q) (hk : k ≤ 4000000) : Len (KB.R q) := R_len h hk
theorem Len.zero : Len jGe := ⟨by decide, by decide⟩
end Go.KB
