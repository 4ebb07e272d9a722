/- The plain law of HullStability: it returns true for every ship, attitude and upthrust. No condition. -/
import Derived.Test.YtbedbjphickpaaaGreatPZg
namespace Go.KB
set_option linter.unusedVariables false
set_option maxRecDepth 100000

section
variable (s : GShip) (p q u : Rat)
def metaQ : Rat := zQ' s p q / vQ s p q + cQ s p q / vQ s p q
def kgQ' : Rat := szQ s / (massI s : Rat)
def leftQ : Rat := (massI s : Rat) - u
def leverQ : Rat := leftQ s u * metaQ s p q - (massI s : Rat) * kgQ' s - ((1000 * freeI s : Int) : Rat)
def stabQ : GStable := ⟨R (metaQ s p q), R (kgQ' s), R (leverQ s p q u / (massI s : Rat)), R (leverQ s p q u / leftQ s u)⟩
end
section
variable {s : GShip} {p q u : Rat} {K : Nat} (hK : K ≤ 1000) (hy : ∀ i, i < s.Stations.length → Sz K (yT s p q i)) (h : Fits s) (hu : Sz 49 u)
include hK hy h
theorem metaSz : Sz 220000 (metaQ s p q) := (hydro_sz hK hy h (d := 0) (by omega) (by omega)).2.1
include hu
omit hK hy in
theorem leftSz : Sz 113 (leftQ s u) := ((massSz h.lds).sub hu).mono (by omega)
theorem leverSz : Sz 224305 (leverQ s p q u) := by
  have hf := freeSz h.lds
  exact ((((leftSz h hu).mul (metaSz hK hy h)).sub ((massSz h.lds).mul (kgSz h.lds))).sub (Sz.i64 (z := 1000 * freeI s) (by omega) (by omega))).mono (by omega)
theorem stab_len (hl : 0 < leftQ s u) : LenS (stabQ s p q u) :=
  ⟨Len.R (metaSz hK hy h) (by omega), Len.R (kgSz h.lds) (by omega), Len.R ((leverSz hK hy h hu).div (massSz h.lds)) (by omega), Len.R ((leverSz hK hy h hu).div (leftSz h hu)) (by omega)⟩
theorem rStab_eq {N : Nat} {x : GRat} {o : GHydro} (hx : Qf 32 x u) (ho : o.Meta = R (metaQ s p q)) (hl : 0 < leftQ s u) (hN : 2 ^ 64 ≤ N) : f_ref02_Stability N s o x = some (stabQ s p q u) := by
  have hm := mass_bd h.lds (i := (ldsL s).length) (Nat.le_refl _)
  have hf := freeSz h.lds
  have hl0 : leftQ s u ≠ 0 := by grind
  have zk := kgSz h.lds
  have z1 : Sz 64 ((1000 : Int) : Rat) := Sz.i64 (by omega) (by omega)
  have z2 : Sz 64 (freeI s : Rat) := Sz.i64 (by omega) (by omega)
  have e1 : (massI s : Rat) - u = leftQ s u := rfl
  have e2 : ((1000 : Int) : Rat) * (freeI s : Rat) = ((1000 * freeI s : Int) : Rat) := (Rat.intCast_mul _ _).symm
  have z3 : Sz 64 ((1000 * freeI s : Int) : Rat) := Sz.i64 (by omega) (by omega)
  unfold f_ref02_Stability
  rw [rLoads_eq h.lds hN, bS]
  unfold totQ
  dsimp only
  rw [W_R (by unfold massI; omega) (by unfold massI; omega) hN, bS, rSubRat_eq (Qf.R (massSz h.lds)) hx (by omega) hN, bS, e1, ho, rMulRat_eq (Qf.R (leftSz h hu)) (Qf.R (metaSz hK hy h)) (by omega) hN, bS, rMulRat_eq (Qf.R (massSz h.lds)) (Qf.R zk) (by omega) hN, bS,
    rSubRat_eq (Qf.R ((leftSz h hu).mul (metaSz hK hy h))) (Qf.R ((massSz h.lds).mul zk)) (by omega) hN, bS, W_R (by omega) (by omega) hN, bS, W_R (by omega) (by omega) hN, bS, rMulRat_eq (Qf.R z1) (Qf.R z2) (by omega) hN, bS, e2,
    rSubRat_eq (Qf.R (((leftSz h hu).mul (metaSz hK hy h)).sub ((massSz h.lds).mul zk))) (Qf.R z3) (by omega) hN, bS,
    show leftQ s u * metaQ s p q - (massI s : Rat) * (szQ s / (massI s : Rat)) - ((1000 * freeI s : Int) : Rat) = leverQ s p q u from rfl, rQuoRat_eq (Qf.R (leverSz hK hy h hu)) (Qf.R (massSz h.lds)) (by omega) (mass_ne h.lds) hN, bS, rQuoRat_eq (Qf.R (leverSz hK hy h hu)) (Qf.R (leftSz h hu)) (by omega) hl0 hN]
  rfl
end
def limE (s : GShip) (u : Rat) : Prop := u < 0 ∨ leftQ s u ≤ 0
theorem Stab_eq {N k : Nat} {s : GShip} {p q u : Rat} {a : GAttitude} {w : GRaised} (ht : Tame s) (h1 : Qf k a.Sink p) (h2 : Qf k a.Slope q) (hk : k ≤ 400) (hx : Qf 32 w.Upthrust u) (hN : 2 ^ 64 ≤ N) :
    (bothE s w.Density ≠ 0 → f_hull_Stability N s a w = some (zeroS, bothE s w.Density)) ∧
    (bothE s w.Density = 0 → vQ s p q = 0 → f_hull_Stability N s a w = some (zeroS, 29)) ∧
    (bothE s w.Density = 0 → vQ s p q ≠ 0 → limE s u → f_hull_Stability N s a w = some (zeroS, 16)) ∧
    (bothE s w.Density = 0 → vQ s p q ≠ 0 → ¬limE s u → f_hull_Stability N s a w = some (stabQ s p q u, 0)) := by
  have start : bothE s w.Density = 0 → Fits s ∧ 900 ≤ w.Density ∧ w.Density ≤ 1100 := fun hb => by
    obtain ⟨hs, hd⟩ := both_ok hb
    have := dens_ok hd
    exact ⟨Fits.of ht hs, this.1, this.2⟩
  unfold f_hull_Stability
  rw [floated_eq ht hN, bS, cmp_neq]
  refine ⟨fun hb => by rw [dF hb]; rfl, fun hb hv => ?_, fun hb hv hl => ?_, fun hb hv hl => ?_⟩
  · obtain ⟨hf, g0, g1⟩ := start hb
    rw [dT hb, Bool.not_true, cond_false, hyd_eq hf h1 h2 (by omega) (K := 2 * k + 98) (by omega) (hf.y32 h1 h2) (by omega) (by omega) hN, bS, if_pos hv]; rfl
  · obtain ⟨hf, g0, g1⟩ := start hb
    have hm := mass_bd hf.lds (i := (ldsL s).length) (Nat.le_refl _)
    have z0 : Sz 64 ((0 : Int) : Rat) := Sz.i64 (by omega) (by omega)
    have zl := leftSz hf (hx.sz.mono (show 32 + 17 ≤ 49 by omega))
    rw [dT hb, Bool.not_true, cond_false, hyd_eq hf h1 h2 (by omega) (K := 2 * k + 98) (by omega) (hf.y32 h1 h2) (by omega) (by omega) hN, bS, if_neg hv, Bool.not_true, cond_false, total_eq hf.lds hN, bS]
    unfold totQ
    dsimp only
    rw [whole_eq (by unfold massI; omega) (by unfold massI; omega) hN, bS, SubRat_eq (Qf.R (massSz hf.lds)) hx (by omega) hN, bS, show (massI s : Rat) - u = leftQ s u from rfl, whole_eq (by omega) (by omega) hN, bS, CmpRat_eq hx (Qf.R z0) (by omega) hN, bS, cmp_lss, cmpQ_lt]
    by_cases hu : u < 0
    · rw [dT (show u < ((0 : Int) : Rat) from hu)]; rfl
    · have hl2 : leftQ s u ≤ 0 := hl.resolve_left hu
      rw [dF (show ¬u < ((0 : Int) : Rat) from hu), Bool.not_false, cond_true, bS, cond_true, CmpRat_eq (Qf.R zl) (Qf.R z0) (by omega) hN, bS, cmp_leq, cmpQ_le, dT (show leftQ s u ≤ ((0 : Int) : Rat) from hl2)]; rfl
  · obtain ⟨hf, g0, g1⟩ := start hb
    have hy := hf.y32 h1 h2
    have hK : 2 * k + 98 ≤ 1000 := by omega
    have hm := mass_bd hf.lds (i := (ldsL s).length) (Nat.le_refl _)
    have hfr := freeSz hf.lds
    have z0 : Sz 64 ((0 : Int) : Rat) := Sz.i64 (by omega) (by omega)
    have z3 : Sz 64 ((1000 * freeI s : Int) : Rat) := Sz.i64 (by omega) (by omega)
    have hus : Sz 49 u := hx.sz.mono (show 32 + 17 ≤ 49 by omega)
    have zl := leftSz hf hus
    have zm := metaSz hK hy hf
    have zk := kgSz hf.lds
    have zv := leverSz hK hy hf hus
    have hu : ¬u < 0 := fun h => hl (.inl h)
    have hl2 : ¬leftQ s u ≤ 0 := fun h => hl (.inr h)
    have hl0 : leftQ s u ≠ 0 := by grind
    rw [dT hb, Bool.not_true, cond_false, hyd_eq hf h1 h2 (by omega) (K := 2 * k + 98) (by omega) (hf.y32 h1 h2) (by omega) (by omega) hN, bS, if_neg hv, Bool.not_true, cond_false, total_eq hf.lds hN, bS]
    unfold totQ
    dsimp only
    rw [whole_eq (by unfold massI; omega) (by unfold massI; omega) hN, bS, SubRat_eq (Qf.R (massSz hf.lds)) hx (by omega) hN, bS, show (massI s : Rat) - u = leftQ s u from rfl, whole_eq (by omega) (by omega) hN, bS, CmpRat_eq hx (Qf.R z0) (by omega) hN, bS, cmp_lss, cmpQ_lt,
      dF (show ¬u < ((0 : Int) : Rat) from hu), Bool.not_false, cond_true, bS, cond_true, CmpRat_eq (Qf.R zl) (Qf.R z0) (by omega) hN, bS, cmp_leq, cmpQ_le, dF (show ¬leftQ s u ≤ ((0 : Int) : Rat) from hl2), Bool.or_self, cond_false,
      show (hydroQ s p q w.Density).Meta = R (metaQ s p q) from rfl, times2 (Qf.R zl) (Qf.R zm) zl zm (by omega) hN, bS, bS, times2 (Qf.R (massSz hf.lds)) (Qf.R zk) (massSz hf.lds) zk (by omega) hN, bS,
      SubRat_eq (Qf.R (zl.mul zm)) (Qf.R ((massSz hf.lds).mul zk)) (by omega) hN, bS, w64 (by omega) (by omega), whole_eq (by omega) (by omega) hN, bS, SubRat_eq (Qf.R ((zl.mul zm).sub ((massSz hf.lds).mul zk))) (Qf.R z3) (by omega) hN, bS, bS,
      show leftQ s u * metaQ s p q - (massI s : Rat) * (szQ s / (massI s : Rat)) - ((1000 * freeI s : Int) : Rat) = leverQ s p q u from rfl, over_eq (Qf.R zv) (Qf.R (massSz hf.lds)) (by omega) (mass_ne hf.lds) hN, bS, over_eq (Qf.R zv) (Qf.R zl) (by omega) hl0 hN]
    rfl
theorem law_HullStability (x0 : GShip) (x1 : GAttitude) (x2 : GRaised) (h0 : x0.ok) (h1 : x1.ok) (h2 : x2.ok) : f_law02_HullStability (2 ^ 70) x0 x1 x2 = some true := by
  have hN : 2 ^ 64 ≤ (2 ^ 70 : Nat) := by decide
  obtain ⟨_, hw, _⟩ := h2
  unfold f_law02_HullStability
  rw [awake_true, bS, Bool.not_true, cond_false]
  obtain ⟨b, hb, ht⟩ := small_eq (s := x0) hN
  obtain ⟨c, hc, hq⟩ := att_eq (N := 2 ^ 70) h1
  obtain ⟨e, he, hx⟩ := bsShort_eq (N := 2 ^ 70) hw
  rw [hb, bS]
  cases b with
  | false => rfl
  | true =>
    rw [Bool.not_true, Bool.not_false, cond_true, hc, bS]
    cases c with
    | false => rfl
    | true =>
      rw [Bool.not_true, Bool.or_self, Bool.not_false, cond_true, he, bS]
      cases e with
      | false => rfl
      | true =>
        have ht := ht rfl
        obtain ⟨q1, q2⟩ := hq rfl
        have hx := hx rfl
        obtain ⟨s1, s2, s3, s4⟩ := Stab_eq (s := x0) (w := x2) ht q1 q2 (by omega) hx hN
        rw [Bool.not_true, Bool.or_self, cond_false, copied_eq ht hN, bS]
        have same0 : ∀ z : Int, ((bif (cmpI .eql z z) then (f_law02_SameStable (2 ^ 70) zeroS zeroS) else some false).bind fun v18 => some ((cmpI .eql z z) && v18)) = some true := fun z => by
          rw [cmp_eql, dT rfl, cond_true, sameS_refl LenS.zero hN]; rfl
        by_cases hz : bothE x0 x2.Density = 0
        · obtain ⟨hs, hd⟩ := both_ok hz
          have hf := Fits.of ht hs
          have hd := dens_ok hd
          have hy := hf.y32 q1 q2
          have hm := mass_bd hf.lds (i := (ldsL x0).length) (Nat.le_refl _)
          by_cases hV : vQ x0 (rv x1.Sink) (rv x1.Slope) = 0
          · rw [s2 hz hV, bS, both_eq ht hN, bS, cmp_eql, dT hz, cond_true, rHyd_eq hf q1 q2 (by omega) (K := 2 * 32 + 98) (by omega) hy (by omega) (by omega) hN, bS, if_pos hV]
            exact same0 29
          · have hcmp : decide (0 ≤ cmpQ (rv x2.Upthrust) (massI x0 : Rat)) = decide (leftQ x0 (rv x2.Upthrust) ≤ 0) := by
              rw [cmpQ_ge]; unfold leftQ
              exact decide_eq_decide.2 ⟨fun h => by grind, fun h => by grind⟩
            have inner : (bif (!(decide (sgnQ (rv x2.Upthrust) < 0))) then (f_ref02_Loads (2 ^ 70) x0) else some (⟨0, (⟨(⟨false, []⟩ : GInt), (⟨false, []⟩ : GInt)⟩ : GRat), (⟨(⟨false, []⟩ : GInt), (⟨false, []⟩ : GInt)⟩ : GRat), 0⟩ : GCentre)).bind (fun v10 => (bif (!(decide (sgnQ (rv x2.Upthrust) < 0))) then (f_base_W (2 ^ 70) v10.Mass) else some (⟨(⟨false, []⟩ : GInt), (⟨false, []⟩ : GInt)⟩ : GRat)).bind fun v11 => (bif (!(decide (sgnQ (rv x2.Upthrust) < 0))) then (f_ref01_CmpRat (2 ^ 70) x2.Upthrust v11) else some 0).bind fun v12 =>
                bif ((decide (sgnQ (rv x2.Upthrust) < 0)) || (cmpI .geq v12 0)) then (some ((16 : Int), hydroQ x0 (rv x1.Sink) (rv x1.Slope) x2.Density)) else (some (bothE x0 x2.Density, hydroQ x0 (rv x1.Sink) (rv x1.Slope) x2.Density))) =
                some (if rv x2.Upthrust < 0 ∨ leftQ x0 (rv x2.Upthrust) ≤ 0 then (16, hydroQ x0 (rv x1.Sink) (rv x1.Slope) x2.Density) else (0, hydroQ x0 (rv x1.Sink) (rv x1.Slope) x2.Density)) := by
              rw [sgnQ_neg, hz]
              by_cases hu : rv x2.Upthrust < 0
              · rw [dT hu, if_pos (.inl hu)]; rfl
              · rw [dF hu, Bool.not_false, cond_true, rLoads_eq hf.lds hN, bS, cond_true, show (totQ x0).Mass = massI x0 from rfl, W_R (by unfold massI; omega) (by unfold massI; omega) hN, bS, cond_true, rCmpRat_eq hx (Qf.R (massSz hf.lds)) (by omega) hN, bS, Bool.false_or, cmp_geq, hcmp]
                by_cases hl : leftQ x0 (rv x2.Upthrust) ≤ 0
                · rw [dT hl, if_pos (.inr hl)]; rfl
                · rw [dF hl, if_neg (fun h => h.elim hu hl)]; rfl
            by_cases hl : limE x0 (rv x2.Upthrust)
            · rw [s3 hz hV hl, bS, both_eq ht hN, bS, cmp_eql, dT hz, cond_true, rHyd_eq hf q1 q2 (by omega) (K := 2 * 32 + 98) (by omega) hy (by omega) (by omega) hN, bS, if_neg hV]
              dsimp only
              rw [Bool.not_true, cond_false, rSignRat_eq hx (by omega) hN, bS, cmp_lss, inner, if_pos (show rv x2.Upthrust < 0 ∨ leftQ x0 (rv x2.Upthrust) ≤ 0 from hl), bS]
              exact same0 16
            · have hl2 : 0 < leftQ x0 (rv x2.Upthrust) := by
                have : ¬leftQ x0 (rv x2.Upthrust) ≤ 0 := fun h => hl (.inr h)
                grind
              rw [s4 hz hV hl, bS, both_eq ht hN, bS, cmp_eql, dT hz, cond_true, rHyd_eq hf q1 q2 (by omega) (K := 2 * 32 + 98) (by omega) hy (by omega) (by omega) hN, bS, if_neg hV]
              dsimp only
              rw [Bool.not_true, cond_false, rSignRat_eq hx (by omega) hN, bS, cmp_lss, inner, if_neg (show ¬(rv x2.Upthrust < 0 ∨ leftQ x0 (rv x2.Upthrust) ≤ 0) from hl), bS]
              dsimp only
              rw [cmp_neq, cmp_eql, dT rfl, Bool.not_true, cond_false, cond_true, rStab_eq (K := 2 * 32 + 98) (by omega) hy hf (hx.sz.mono (by omega)) hx rfl hl2 hN, bS, cond_true, sameS_refl (stab_len (K := 2 * 32 + 98) (by omega) hy hf (hx.sz.mono (by omega)) hl2) hN]; rfl
        · rw [s1 hz, bS, both_eq ht hN, bS, cmp_eql, dF hz, cond_false, bS]
          dsimp only
          rw [cmp_neq, dF hz]
          exact same0 _
end Go.KB
