/- Plain laws: the hydrostatics of the reference. Plain laws: errors of densities, hydrostatics that are the same. No condition. -/
import Derived.Test.YtbedbjphickpaaaGreatPZe
import Derived.Test.YtbedbjphickpaaaGreatPZh
namespace Go.KB
set_option linter.unusedVariables false
set_option maxRecDepth 100000
theorem rImm_eq {N k : Nat} {a : GAttitude} {p q : Rat} {x : Int} (h1 : Qf k a.Sink p) (h2 : Qf k a.Slope q) (hk : k ≤ 100000) (g0 : -9223372036854775808 ≤ x) (g1 : x ≤ 9223372036854775807) (hN : 2 ^ 64 ≤ N) : f_ref02_Immersion N a x = some (R (ySet p q x)) := by
 unfold f_ref02_Immersion ySet
 have hd := Sz.i64 g0 g1
 rw [W_R g0 g1 hN, bS, rMulRat_eq h2 (Qf.R hd) (by omega) hN, bS, rAddRat_eq h1 (Qf.R (h2.sz.mul hd)) (by omega) hN]; rfl
theorem least_eq {N K : Nat} {y z : Rat} (hy : Sz K y) (hz : Sz K z) (hK : K ≤ 900000) (hN : 2 ^ 64 ≤ N) : f_ref02_least N (R y) (R z) = some (R (if y < z then y else z)) := by
  unfold f_ref02_least
  rw [rCmpRat_eq (Qf.R hy) (Qf.R hz) (by omega) hN, bS, cmp_leq, cmpQ_le]
  by_cases h : y ≤ z
  · rw [dT h, cond_true, rNormRat_eq (Qf.R hy) (by omega) hN, bS]
    by_cases h2 : y < z
    · rw [if_pos h2]
    · rw [if_neg h2, show y = z by grind]
  · rw [dF h, cond_false, rNormRat_eq (Qf.R hz) (by omega) hN, bS, if_neg (by grind)]
theorem sgnQ_neg {q : Rat} : decide (sgnQ q < 0) = decide (q < 0) := by
 unfold sgnQ
 by_cases h1 : q < 0
 ·rw [if_pos h1, dT h1]; rfl
 ·rw [if_neg h1, dF h1]
  split <;> rfl
theorem rpart_eq {N K k : Nat} {t : GStation} {y : Rat} (h : Fit t) (hy : Sz K y) (hK : K ≤ 10000) (hk : k < t.Halves.length) (hN : 2 ^ 64 ≤ N) : f_ref02_part N t (k : Int) (R y) = some (R (partQ t y k)) := by
 have hn := h.nh; have hn3 := h.n3
 have l1 := h.l0 k (by omega); have l2 := h.l0 (k + 1) (by omega)
 have z1 := h.lSz (k := k) (by omega); have z2 := h.lSz (k := k + 1) (by omega)
 have zt := h.topSz hy hk
 unfold f_ref02_part
 simp only [cmp_lss]
 rw [w64s (by omega), idxB (by omega), bS, W_R (by omega) (by omega) hN, bS, least_eq (hy.mono (show K ≤ K + 64 by omega)) (z2.mono (show 64 ≤ K + 64 by omega)) (by omega) hN, bS, idxB (by omega), bS, W_R (by omega) (by omega) hN, bS,
  show (if y < ((t.Levels[k + 1]! : Int) : Rat) then y else ((t.Levels[k + 1]! : Int) : Rat)) = topQ t y k from rfl, rSubRat_eq (Qf.R zt) (Qf.R z1) (by omega) hN, bS, rSignRat_eq (Qf.R (zt.sub z1)) (by omega) hN, bS, sgnQ_neg]
 have hl : lvQ t k < lvQ t (k + 1) := by
  have := h.la (k + 1) (by omega) (by omega)
  rw [Nat.add_sub_cancel] at this
  exact_mod_cast this
 unfold partQ
 by_cases hd : y ≤ lvQ t k
 ·rw [if_pos hd]
  have ht : topQ t y k = y := by unfold topQ; rw [if_pos (by grind)]
  rw [ht]
  by_cases hs : y - lvQ t k < 0
  ·rw [dT hs, cond_true, W_R (by omega) (by omega) hN]; rfl
  ·rw [dF hs, cond_false, show y - lvQ t k = 0 by grind]
 ·rw [if_neg hd]
  have hs : ¬(topQ t y k - lvQ t k < 0) := by unfold topQ; split <;> grind
  rw [dF hs]; rfl
theorem rArea_eq {N K : Nat} {t : GStation} {y : Rat} (h : Fit t) (hy : Sz K y) (hK : K ≤ 10000) (hN : 2 ^ 64 ≤ N) : f_ref02_Area N t (R y) = some (R (areaQ t y)) := by
 have hn := h.nh; have hn3 := h.n3
 have hb1 : (K + 192) * t.Halves.length ≤ 400000 := Nat.le_trans (Nat.mul_le_mul (show K + 192 ≤ 10200 by omega) (show t.Halves.length ≤ 30 by omega)) (by omega)
 unfold f_ref02_Area
 rw [W_R (by omega) (by omega) hN, bS]
 have := loopN_fold (f := f_ref02_Area_L1 N t (R y)) t.Halves.length (fun i => R (sumQ (arT t y) i)) (R (areaQ t y)) (fun i hi => by
  have hh := h.hb i hi
  have s1 := sumSz' (c := K + 192) (i := i) (fun k hk => h.arSz hy hk) (by omega) hb1
  unfold f_ref02_Area_L1
  simp only [cmp_lss]
  rw [dT (by omega), cond_true, idxB hi, bS, w64 (by omega) (by omega), W_R (by omega) (by omega) hN, bS, rpart_eq h hy hK hi hN, bS, rMulRat_eq (Qf.R (h.hSz hi)) (Qf.R (h.partSz hy hi)) (by omega) hN, bS,
   show ((2 * t.Halves[i]! : Int) : Rat) * partQ t y i = arT t y i from rfl, rAddRat_eq (Qf.R s1) (Qf.R (h.arSz hy hi)) (by omega) hN, bS, w64s (by omega)]; rfl) (by
  unfold f_ref02_Area_L1
  simp only [cmp_lss]
  rw [dF (by omega)]; rfl) N (by omega)
 rw [show loopN (f_ref02_Area_L1 N t (R y)) N (R ((0 : Int) : Rat), 0) = _ from this]; rfl
theorem rHalf_eq {N K : Nat} {t : GStation} {y : Rat} (h : Fit t) (hy : Sz K y) (hK : K ≤ 10000) (hN : 2 ^ 64 ≤ N) : f_ref02_Half N t (R y) = some (halfQ t y) := by
  unfold f_ref02_Half
  have hn := h.nh; have hn3 := h.n3
  rw [loop_err (f := f_ref02_Half_L1 N t (R y)) (e := haT t y) (n := t.Halves.length) (fin := Sum.inl ()) (err := fun z => Sum.inr (z - 1)) (fun i hi _ => by
    unfold f_ref02_Half_L1
    simp only [cmp_lss, cmp_leq]
    have hl1 := h.l0 i (by omega); have hl2 := h.l0 (i + 1) (by omega); have hh := h.hb i hi
    have z1 := h.lSz (k := i) (by omega); have z2 := h.lSz (k := i + 1) (by omega)
    rw [dT (by omega), cond_true, idxB (by omega), bS, W_R (by omega) (by omega) hN, bS, rCmpRat_eq (Qf.R z1) (Qf.R hy) (by omega) hN, bS, cmpQ_le, w64s (by omega)]
    by_cases h1 : lvQ t i ≤ y
    · rw [dT h1, cond_true, idxB (by omega), bS, cond_true, W_R (by omega) (by omega) hN, bS, cond_true, rCmpRat_eq (Qf.R hy) (Qf.R z2) (by omega) hN, bS, cmpQ_lt, Bool.true_and]
      by_cases h2 : y < lvQ t (i + 1)
      · have e : haT t y i = t.Halves[i]! + 1 := by unfold haT; rw [if_pos ⟨h1, h2⟩]
        rw [dT h2, e, if_neg (by omega), cond_true, idxB hi, bS, show t.Halves[i]! + 1 - 1 = t.Halves[i]! by omega]
      · have e : haT t y i = 0 := by unfold haT; rw [if_neg (fun h => h2 h.2)]
        rw [dF h2, e]; rfl
    · have e : haT t y i = 0 := by unfold haT; rw [if_neg (fun h => h1 h.1)]
      rw [dF h1, e]; rfl) (fun _ => by
    unfold f_ref02_Half_L1
    simp only [cmp_lss]
    rw [dF (by omega)]; rfl) (by omega), bS]
  unfold errOr halfQ
  split <;> rfl
section
variable {s : GShip} {p q : Rat} {K : Nat} (hK : K ≤ 1000) (hy : ∀ i, i < s.Stations.length → Sz K (yT s p q i))
include hK hy
end
end Go.KB
namespace Go.KB
set_option linter.unusedVariables false
set_option maxRecDepth 100000
theorem Len.R {k : Nat} {q : Rat} (h : Sz k q) (hk : k ≤ 4000000) : Len (KB.R q) := R_len h hk
theorem Len.zero : Len zeroR := ⟨by decide, by decide⟩
theorem same_refl {N : Nat} {x : GRat} (h : Len x) (hN : 2 ^ 64 ≤ N) : f_base_SameRat N x x = some true := by rw [SameRat_eq h.1 h.2 hN, sameR_refl]
structure LenH (h : GHydro) : Prop where
 a1 : Len h.Volume
 a2 : Len h.Displacement
 a3 : Len h.X
 a4 : Len h.Z
 a5 : Len h.Area
 a6 : Len h.Float
 a7 : Len h.Cross
 a8 : Len h.Long
 a9 : Len h.Meta
theorem LenH.zero : LenH zeroH := ⟨Len.zero, Len.zero, Len.zero, Len.zero, Len.zero, Len.zero, Len.zero, Len.zero, Len.zero⟩
section
variable {s : GShip} {p q : Rat} {K : Nat} (hK : K ≤ 1000) (hy : ∀ i, i < s.Stations.length → Sz K (yT s p q i))
include hK hy
end
end Go.KB
