/- Plain laws: the hydrostatics of the reference. No condition. -/
import Derived.Test.YtbedbjphickpaaaGreatPZf
namespace Go.KB
set_option linter.unusedVariables false
set_option maxRecDepth 100000
theorem rRise_eq {N K : Nat} {t : GStation} {y : Rat} (h : Fit t) (hy : Sz K y) (hK : K ≤ 10000) (hN : 2 ^ 64 ≤ N) : f_ref02_Rise N t (R y) = some (R (momQ t y)) := by
  have hn := h.nh; have hn3 := h.n3
  have hb2 : (2 * K + 384) * t.Halves.length ≤ 800000 := Nat.le_trans (Nat.mul_le_mul (show 2 * K + 384 ≤ 20400 by omega) (show t.Halves.length ≤ 30 by omega)) (by omega)
  unfold f_ref02_Rise
  rw [W_R (by omega) (by omega) hN, bS]
  have zh : Sz 128 (((1 : Int) : Rat) / ((2 : Int) : Rat)) := (Sz.i64 (z := 1) (by omega) (by omega)).div (Sz.i64 (z := 2) (by omega) (by omega))
  have := loopN_fold (f := f_ref02_Rise_L1 N t (R y)) t.Halves.length (fun i => R (sumQ (moT t y) i)) (R (momQ t y)) (fun i hi => by
    have hh := h.hb i hi; have hl := h.l0 i (by omega)
    have z1 := h.lSz (k := i) (by omega)
    have s2 := sumSz' (c := 2 * K + 384) (i := i) (fun k hk => h.moSz hy hk) (by omega) hb2
    have zp := h.partSz hy hi
    have e : arT t y i * (lvQ t i + partQ t y i * (((1 : Int) : Rat) / ((2 : Int) : Rat))) = moT t y i := by
      unfold moT
      have h2 := rat_ne (show (2 : Int) ≠ 0 by omega)
      by_cases hd : y ≤ lvQ t i
      · rw [arT_dry hd]; simp [Rat.div_def]
      · have hp : partQ t y i = topQ t y i - lvQ t i := by unfold partQ; rw [if_neg hd]
        rw [hp]
        generalize arT t y i = u
        grind
    unfold f_ref02_Rise_L1
    simp only [cmp_lss]
    rw [dT (by omega), cond_true, rpart_eq h hy hK hi hN, bS, idxB (by omega), bS, W_R (by omega) (by omega) hN, bS, Q_R (by omega) (by omega) (by omega) (by omega) (by omega) hN, bS, rMulRat_eq (Qf.R zp) (Qf.R zh) (by omega) hN, bS,
      rAddRat_eq (Qf.R z1) (Qf.R (zp.mul zh)) (by omega) hN, bS, idxB hi, bS, w64 (by omega) (by omega), W_R (by omega) (by omega) hN, bS, rMulRat_eq (Qf.R (h.hSz hi)) (Qf.R zp) (by omega) hN, bS,
      show ((2 * t.Halves[i]! : Int) : Rat) * partQ t y i = arT t y i from rfl, rMulRat_eq (Qf.R (h.arSz hy hi)) (Qf.R (z1.add (zp.mul zh))) (by omega) hN, bS, e, rAddRat_eq (Qf.R s2) (Qf.R (h.moSz hy hi)) (by omega) hN, bS, w64s (by omega)]; rfl) (by
    unfold f_ref02_Rise_L1
    simp only [cmp_lss]
    rw [dF (by omega)]; rfl) N (by omega)
  rw [show loopN (f_ref02_Rise_L1 N t (R y)) N (R ((0 : Int) : Rat), 0) = _ from this]; rfl
theorem rHalf_eq {N K : Nat} {t : GStation} {y : Rat} (h : Fit t) (hy : Sz K y) (hK : K ≤ 10000) (hN : 2 ^ 64 ≤ N) : f_ref02_Half N t (R y) = some (halfQ t y) := by
  unfold f_ref02_Half
  have hn := h.nh; have hn3 := h.n3
  rw [loop_err (f := f_ref02_Half_L1 N t (R y)) (e := haT t y) (n := t.Halves.length) (fin := Sum.inl ()) (err := fun z => Sum.inr (z - 1)) (fun i hi _ => by
    unfold f_ref02_Half_L1
    simp only [cmp_lss, cmp_leq]
    have hl1 := h.l0 i (by omega); have hl2 := h.l0 (i + 1) (by omega); have hh := h.hb i hi
    have z1 := h.lSz (k := i) (by omega); have z2 := h.lSz (k := i + 1) (by omega)
    rw [dT (by omega), cond_true, idxB (by omega), bS, W_R (by omega) (by omega) hN, bS, rCmpRat_eq (Qf.R z1) (Qf.R hy) (by omega) hN, bS, cmpQ_le, w64s (by omega)]
    by_cases h1 : lvQ t i ≤ y
    · rw [dT h1, cond_true, idxB (by omega), bS, cond_true, W_R (by omega) (by omega) hN, bS, cond_true, rCmpRat_eq (Qf.R hy) (Qf.R z2) (by omega) hN, bS, cmpQ_lt, Bool.true_and]
      by_cases h2 : y < lvQ t (i + 1)
      · have e : haT t y i = t.Halves[i]! + 1 := by unfold haT; rw [if_pos ⟨h1, h2⟩]
        rw [dT h2, e, if_neg (by omega), cond_true, idxB hi, bS, show t.Halves[i]! + 1 - 1 = t.Halves[i]! by omega]
      · have e : haT t y i = 0 := by unfold haT; rw [if_neg (fun h => h2 h.2)]
        rw [dF h2, e]; rfl
    · have e : haT t y i = 0 := by unfold haT; rw [if_neg (fun h => h1 h.1)]
      rw [dF h1, e]; rfl) (fun _ => by
    unfold f_ref02_Half_L1
    simp only [cmp_lss]
    rw [dF (by omega)]; rfl) (by omega), bS]
  unfold errOr halfQ
  split <;> rfl
section
variable {s : GShip} {p q : Rat} {K : Nat} (hK : K ≤ 1000) (hy : ∀ i, i < s.Stations.length → Sz K (yT s p q i))
include hK hy
theorem rhyd_loop2 {N k : Nat} {a : GAttitude} (h : Fits s) (h1 : Qf k a.Sink p) (h2 : Qf k a.Slope q) (hk : k ≤ 1000) (hN : 2 ^ 64 ≤ N) :
    loopN (f_ref02_Hydrostatics_L2 N s a) N (R ((0 : Int) : Rat), R ((0 : Int) : Rat), R ((0 : Int) : Rat), R ((0 : Int) : Rat), R ((0 : Int) : Rat), 0) = some (R (xQ s p q), R (zQ' s p q), R (wpQ s p q), R (fQ s p q), R (cQ s p q)) := by
  have h6 := h.n6
  have := loop_errG (f := f_ref02_Hydrostatics_L2 N s a) (e := fun _ => 0) (N := N) (n := s.Stations.length) (fin := (R (xQ s p q), R (zQ' s p q), R (wpQ s p q), R (fQ s p q), R (cQ s p q))) (err := fun _ => (R (xQ s p q), R (zQ' s p q), R (wpQ s p q), R (fQ s p q), R (cQ s p q)))
    (fun i => (R (sumQ (tX s p q) i), R (sumQ (tZ s p q) i), R (sumQ (tA s p q) i), R (sumQ (tF s p q) i), R (sumQ (tC s p q) i), (i : Int))) (fun i hi _ => by
    have hf := h.fit i hi
    have x0 := hf.x0; have x1 := hf.x1; have w0 := hf.w0; have w1 := hf.w1; have hb := hf.half (yT s p q i)
    have hyi := hy i hi
    have zw := h.wSz hi; have zx := h.xSz hi; have za := h.aSz hK hy hi; have zm := h.mSz hK hy hi; have zb := h.bSz (p := p) (q := q) hi
    have hi' : i ≤ s.Stations.length := by omega
    have b1 : 0 ≤ halfQ s.Stations[i]! (yT s p q i) * halfQ s.Stations[i]! (yT s p q i) ∧ halfQ s.Stations[i]! (yT s p q i) * halfQ s.Stations[i]! (yT s p q i) ≤ 10000000000 := by
      have h1 := mulB (a := halfQ s.Stations[i]! (yT s p q i)) (b := halfQ s.Stations[i]! (yT s p q i)) (A := 100000) (B := 100000) (by omega) (by omega)
      have h2 := Int.mul_nonneg hb.1 hb.1
      omega
    have b2 : 0 ≤ halfQ s.Stations[i]! (yT s p q i) * s.Stations[i]!.Width ∧ halfQ s.Stations[i]! (yT s p q i) * s.Stations[i]!.Width ≤ 10000000000 := by
      have h1 := mulB (a := halfQ s.Stations[i]! (yT s p q i)) (b := s.Stations[i]!.Width) (A := 100000) (B := 100000) (by omega) (by omega)
      have h2 := Int.mul_nonneg hb.1 (show 0 ≤ s.Stations[i]!.Width by omega)
      omega
    have b3 : 2 * halfQ s.Stations[i]! (yT s p q i) * s.Stations[i]!.Width = 2 * (halfQ s.Stations[i]! (yT s p q i) * s.Stations[i]!.Width) := Int.mul_assoc _ _ _
    have e1 : ((2 * halfQ s.Stations[i]! (yT s p q i) * s.Stations[i]!.Width : Int) : Rat) = tA s p q i := by unfold tA bT wT; rw [Rat.intCast_mul, Rat.intCast_mul]
    have z23 : Sz 128 (((2 : Int) : Rat) / ((3 : Int) : Rat)) := (Sz.i64 (z := 2) (by omega) (by omega)).div (Sz.i64 (z := 3) (by omega) (by omega))
    have zbb : Sz 64 ((halfQ s.Stations[i]! (yT s p q i) * halfQ s.Stations[i]! (yT s p q i) : Int) : Rat) := Sz.i64 (by omega) (by omega)
    have zbw : Sz 64 ((halfQ s.Stations[i]! (yT s p q i) * s.Stations[i]!.Width : Int) : Rat) := Sz.i64 (by omega) (by omega)
    have e2 : ((halfQ s.Stations[i]! (yT s p q i) * halfQ s.Stations[i]! (yT s p q i) : Int) : Rat) * ((halfQ s.Stations[i]! (yT s p q i) * s.Stations[i]!.Width : Int) : Rat) * (((2 : Int) : Rat) / ((3 : Int) : Rat)) = tC s p q i := by
      unfold tC bT wT
      rw [Rat.intCast_mul, Rat.intCast_mul]
      have := rat_ne (show (3 : Int) ≠ 0 by omega)
      grind
    unfold f_ref02_Hydrostatics_L2
    simp only [cmp_lss]
    rw [dT (by omega), cond_true, idxB hi, bS, rImm_eq h1 h2 (by omega) (by omega) (by omega) hN, bS, show ySet p q s.Stations[i]!.X = yT s p q i from rfl, W_R (by omega) (by omega) hN, bS, rArea_eq hf hyi (by omega) hN, bS,
      show areaQ s.Stations[i]! (yT s p q i) = aT s p q i from rfl, show ((s.Stations[i]!.Width : Int) : Rat) = wT s i from rfl, rMulRat_eq (Qf.R zw) (Qf.R za) (by omega) hN, bS, show wT s i * aT s p q i = tV s p q i from rfl, W_R (by omega) (by omega) hN, bS,
      show ((s.Stations[i]!.X : Int) : Rat) = xT s i from rfl, rMulRat_eq (Qf.R (h.vSz hK hy hi)) (Qf.R zx) (by omega) hN, bS, show tV s p q i * xT s i = tX s p q i from rfl, rAddRat_eq (Qf.R (h.szX hK hy hi')) (Qf.R (h.xxSz hK hy hi)) (by omega) hN, bS, bS,
      rRise_eq hf hyi (by omega) hN, bS, show momQ s.Stations[i]! (yT s p q i) = mT s p q i from rfl, rMulRat_eq (Qf.R zw) (Qf.R zm) (by omega) hN, bS, show wT s i * mT s p q i = tZ s p q i from rfl, rAddRat_eq (Qf.R (h.szZ hK hy hi')) (Qf.R (h.zSz hK hy hi)) (by omega) hN, bS,
      rHalf_eq hf hyi (by omega) hN, bS, w64 (n := 2 * halfQ s.Stations[i]! (yT s p q i)) (by omega) (by omega), w64 (n := 2 * halfQ s.Stations[i]! (yT s p q i) * s.Stations[i]!.Width) (by omega) (by omega), W_R (by omega) (by omega) hN, bS, e1,
      rAddRat_eq (Qf.R (h.szA hi')) (Qf.R (h.arSz' hi)) (by omega) hN, bS, bS, rMulRat_eq (Qf.R (h.arSz' hi)) (Qf.R zx) (by omega) hN, bS, show tA s p q i * xT s i = tF s p q i from rfl, rAddRat_eq (Qf.R (h.szF hi')) (Qf.R (h.fSz hi)) (by omega) hN, bS,
      w64 (by omega) (by omega), W_R (by omega) (by omega) hN, bS, w64 (by omega) (by omega), W_R (by omega) (by omega) hN, bS, rMulRat_eq (Qf.R zbb) (Qf.R zbw) (by omega) hN, bS, Q_R (by omega) (by omega) (by omega) (by omega) (by omega) hN, bS, rMulRat_eq (Qf.R (zbb.mul zbw)) (Qf.R z23) (by omega) hN, bS, e2,
      rAddRat_eq (Qf.R (h.szC hi')) (Qf.R (h.cSz hi)) (by omega) hN, bS, w64s (by omega)]
    rfl) (fun _ => by
    unfold f_ref02_Hydrostatics_L2
    simp only [cmp_lss]
    rw [dF (by omega)]; rfl) (by omega)
  rw [firstErr_nil] at this
  exact this
theorem rhyd_loop1 {N k : Nat} {a : GAttitude} {o : GHydro} {c : Rat} (h : Fits s) (h1 : Qf k a.Sink p) (h2 : Qf k a.Slope q) (hk : k ≤ 1000) (hN : 2 ^ 64 ≤ N) (ho : o.Float = R c) (hc : Sz 3000 c) (hl : o.Long = R 0) :
  loopN (f_ref02_Hydrostatics_L1 N s a) N (o, 0) = some { o with Long := R (sumQ (fun i => tA s p q i * ((xT s i - c) * (xT s i - c))) s.Stations.length) } := by
 have h6 := h.n6
 have zt : ∀ i, i < s.Stations.length → Sz 6320 (tA s p q i * ((xT s i - c) * (xT s i - c))) := fun i hi => ((h.arSz' hi).mul (((h.xSz hi).sub hc).mul ((h.xSz hi).sub hc))).mono (by omega)
 have := loopN_fold (f := f_ref02_Hydrostatics_L1 N s a) s.Stations.length (fun i => { o with Long := R (sumQ (fun i => tA s p q i * ((xT s i - c) * (xT s i - c))) i) }) ({ o with Long := R (sumQ (fun i => tA s p q i * ((xT s i - c) * (xT s i - c))) s.Stations.length) } : GHydro) (fun i hi => by
  have hf := h.fit i hi
  have x0 := hf.x0; have x1 := hf.x1; have w0 := hf.w0; have w1 := hf.w1; have hb := hf.half (yT s p q i)
  have hyi := hy i hi
  have zx := h.xSz hi
  have b2 : 0 ≤ halfQ s.Stations[i]! (yT s p q i) * s.Stations[i]!.Width ∧ halfQ s.Stations[i]! (yT s p q i) * s.Stations[i]!.Width ≤ 10000000000 := by
   have h1 := mulB (a := halfQ s.Stations[i]! (yT s p q i)) (b := s.Stations[i]!.Width) (A := 100000) (B := 100000) (by omega) (by omega)
   have h2 := Int.mul_nonneg hb.1 (show 0 ≤ s.Stations[i]!.Width by omega)
   omega
  have b3 : 2 * halfQ s.Stations[i]! (yT s p q i) * s.Stations[i]!.Width = 2 * (halfQ s.Stations[i]! (yT s p q i) * s.Stations[i]!.Width) := Int.mul_assoc _ _ _
  have e1 : ((2 * halfQ s.Stations[i]! (yT s p q i) * s.Stations[i]!.Width : Int) : Rat) = tA s p q i := by unfold tA bT wT; rw [Rat.intCast_mul, Rat.intCast_mul]
  have sz := sumSz' (m := 40000) (i := i) zt (by omega) (Nat.le_trans (Nat.mul_le_mul_left _ h.n6) (by omega))
  unfold f_ref02_Hydrostatics_L1
  simp only [cmp_lss]
  rw [dT (by omega), cond_true, idxB hi, bS, W_R (by omega) (by omega) hN, bS, ho, show ((s.Stations[i]!.X : Int) : Rat) = xT s i from rfl, rSubRat_eq (Qf.R zx) (Qf.R hc) (by omega) hN, bS, rImm_eq h1 h2 (by omega) (by omega) (by omega) hN, bS,
   show ySet p q s.Stations[i]!.X = yT s p q i from rfl, rHalf_eq hf hyi (by omega) hN, bS, w64 (n := 2 * halfQ s.Stations[i]! (yT s p q i)) (by omega) (by omega), w64 (n := 2 * halfQ s.Stations[i]! (yT s p q i) * s.Stations[i]!.Width) (by omega) (by omega), W_R (by omega) (by omega) hN, bS, e1,
   rMulRat_eq (Qf.R (zx.sub hc)) (Qf.R (zx.sub hc)) (by omega) hN, bS, rMulRat_eq (Qf.R (h.arSz' hi)) (Qf.R ((zx.sub hc).mul (zx.sub hc))) (by omega) hN, bS, rAddRat_eq (Qf.R sz) (Qf.R (zt i hi)) (by omega) hN, bS, w64s (by omega)]
  rfl) (by
  unfold f_ref02_Hydrostatics_L1
  simp only [cmp_lss]
  rw [dF (by omega)]; rfl) N (by omega)
 rw [← this]
 congr 2
 show o = { o with Long := R 0 }
 rw [← hl]
end
theorem long_id {s : GShip} {p q c : Rat} : ∀ n : Nat, sumQ (fun i => tA s p q i * ((xT s i - c) * (xT s i - c))) n = sumQ (tL s p q) n - c * sumQ (tF s p q) n - c * sumQ (tF s p q) n + c * c * sumQ (tA s p q) n := by
 intro n
 induction n with
 | zero => simp only [sumQ]; grind
 | succ n ih => simp only [sumQ]; rw [ih]; unfold tL tF; grind
theorem rHyd_eq {N k K : Nat} {s : GShip} {p q : Rat} {a : GAttitude} {d : Int} (h : Fits s) (h1 : Qf k a.Sink p) (h2 : Qf k a.Slope q) (hk : k ≤ 1000) (hK : K ≤ 1000) (hy : ∀ i, i < s.Stations.length → Sz K (yT s p q i)) (g0 : -9223372036854775807 ≤ d) (g1 : d ≤ 9223372036854775807) (hN : 2 ^ 64 ≤ N) :
    f_ref02_Hydrostatics N s a d = some (if vQ s p q = 0 then (zeroH, false) else (hydroQ s p q d, true)) := by
  have sV : Sz 55000 (vQ s p q) := h.szV hK hy (Nat.le_refl _)
  have sX : Sz 55000 (xQ s p q) := h.szX hK hy (Nat.le_refl _)
  have sZ : Sz 103000 (zQ' s p q) := h.szZ hK hy (Nat.le_refl _)
  have sA : Sz 1200 (wpQ s p q) := h.szA (Nat.le_refl _)
  have sF : Sz 1600 (fQ s p q) := h.szF (Nat.le_refl _)
  have sC : Sz 2400 (cQ s p q) := h.szC (Nat.le_refl _)
  have W0 : f_base_W N 0 = some (R ((0 : Int) : Rat)) := W_R (by omega) (by omega) hN
  unfold f_ref02_Hydrostatics
  rw [rVol_eq hK hy h h1 h2 hk hN, bS, rSignRat_eq (Qf.R sV) (by omega) hN, bS, cmp_eql, sgnQ_z]
  by_cases hV : vQ s p q = 0
  · rw [dT hV, cond_true, if_pos hV]; rfl
  · rw [dF hV, cond_false, if_neg hV, W0, bS, bS, bS, bS, bS, rhyd_loop2 hK hy h h1 h2 hk hN, bS, rMass_eq (Qf.R sV) sV (by omega) g0 g1 hN, bS,
      rQuoRat_eq (Qf.R sX) (Qf.R sV) (by omega) hV hN, bS, rQuoRat_eq (Qf.R sZ) (Qf.R sV) (by omega) hV hN, bS, bS, bS]
    dsimp only
    rw [rSignRat_eq (Qf.R sA) (by omega) hN, bS, cmp_neq, sgnQ_z]
    have szf : Sz 3000 (floQ s p q) := by
      unfold floQ
      split
      · exact Sz.zero.mono (by omega)
      · exact (sF.div sA).mono (by omega)
    have hfl : (bif !decide (wpQ s p q = 0) then ((f_ref01_QuoRat N (R (fQ s p q)) (R (wpQ s p q))).bind fun v42 => some (⟨R (vQ s p q), R (kgQ (vQ s p q) d), R (xQ s p q / vQ s p q), R (zQ' s p q / vQ s p q), R (wpQ s p q), v42, R (cQ s p q), R ((0 : Int) : Rat), ⟨⟨false, []⟩, ⟨false, []⟩⟩⟩ : GHydro))
        else some (⟨R (vQ s p q), R (kgQ (vQ s p q) d), R (xQ s p q / vQ s p q), R (zQ' s p q / vQ s p q), R (wpQ s p q), R ((0 : Int) : Rat), R (cQ s p q), R ((0 : Int) : Rat), ⟨⟨false, []⟩, ⟨false, []⟩⟩⟩ : GHydro)) =
        some (⟨R (vQ s p q), R (kgQ (vQ s p q) d), R (xQ s p q / vQ s p q), R (zQ' s p q / vQ s p q), R (wpQ s p q), R (floQ s p q), R (cQ s p q), R ((0 : Int) : Rat), ⟨⟨false, []⟩, ⟨false, []⟩⟩⟩ : GHydro) := by
      unfold floQ
      by_cases hA : wpQ s p q = 0
      · rw [dT hA, if_pos hA]; rfl
      · rw [dF hA, if_neg hA, Bool.not_false, cond_true, rQuoRat_eq (Qf.R sF) (Qf.R sA) (by omega) hA hN]; rfl
    rw [show (bif !decide (wpQ s p q = 0) then _ else _) = _ from hfl, bS, rhyd_loop1 hK hy h h1 h2 hk hN rfl szf rfl, bS, rQuoRat_eq (Qf.R sC) (Qf.R sV) (by omega) hV hN, bS]
    dsimp only
    rw [rAddRat_eq (Qf.R (sZ.div sV)) (Qf.R (sC.div sV)) (by omega) hN, bS]
    have hL : sumQ (fun i => tA s p q i * ((xT s i - floQ s p q) * (xT s i - floQ s p q))) s.Stations.length = lonQ s p q := by
      rw [long_id]
      unfold lonQ
      rw [show sumQ (tL s p q) s.Stations.length = lQ s p q from rfl, show sumQ (tF s p q) s.Stations.length = fQ s p q from rfl, show sumQ (tA s p q) s.Stations.length = wpQ s p q from rfl]
      by_cases hA : wpQ s p q = 0
      · rw [if_pos hA]
        have hz : ∀ k, k < s.Stations.length → tA s p q k = 0 := by
          refine sumQ_zero (fun k hk => ?_) hA
          have hf := h.fit k hk
          have h0 : (0 : Rat) ≤ wT s k := by have := hf.w0; unfold wT; exact_mod_cast (show (0 : Int) ≤ s.Stations[k]!.Width by omega)
          have h1 : (0 : Rat) ≤ bT s p q k := by have := hf.half (yT s p q k); unfold bT; exact_mod_cast this.1
          have h2 : (0 : Rat) ≤ ((2 : Int) : Rat) := by decide
          unfold tA
          exact Rat.mul_nonneg (Rat.mul_nonneg h2 h1) h0
        have hl0 : lQ s p q = 0 := by unfold lQ; rw [sumQ_const (i := 0) (by omega) (fun k _ hk => by unfold tL; rw [hz k hk]; grind)]; rfl
        have hf0 : floQ s p q = 0 := by unfold floQ; rw [if_pos hA]
        rw [hl0, hf0, hA]; grind
      · rw [if_neg hA]
        have hf : floQ s p q * wpQ s p q = fQ s p q := by unfold floQ; rw [if_neg hA]; grind
        rw [← hf]; grind
    rw [hL]; rfl
end Go.KB
