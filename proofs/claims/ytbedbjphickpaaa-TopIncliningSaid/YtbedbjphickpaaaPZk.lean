/- Plain laws: stability with an upthrust, of the program. Plain laws: inclining experiments, of the program. No condition. -/
import Derived.Test.YtbedbjphickpaaaPZg
import Derived.Test.YtbedbjphickpaaaPZe
namespace Go.KB
set_option linter.unusedVariables false
set_option maxRecDepth 100000
section
variable (s : GShip) (p q u : Rat)
def metaQ : Rat := zQ' s p q / vQ s p q + cQ s p q / vQ s p q
def kgQ' : Rat := szQ s / (massI s : Rat)
def leftQ : Rat := (massI s : Rat) - u
def leverQ : Rat := leftQ s u * metaQ s p q - (massI s : Rat) * kgQ' s - ((1000 * freeI s : Int) : Rat)
def stabQ : GStable := ⟨R (metaQ s p q), R (kgQ' s), R (leverQ s p q u / (massI s : Rat)), R (leverQ s p q u / leftQ s u)⟩
end
section
variable {s : GShip} {p q u : Rat} {K : Nat} (hK : K ≤ 1000) (hy : ∀ i, i < s.Stations.length → Sz K (yT s p q i)) (h : Fits s) (hu : Sz 49 u)
include hK hy h
theorem metaSz : Sz 220000 (metaQ s p q) := (hydro_sz hK hy h (d := 0) (by omega) (by omega)).2.1
include hu
omit hK hy in
theorem leftSz : Sz 113 (leftQ s u) := ((massSz h.lds).sub hu).mono (by omega)
theorem leverSz : Sz 224305 (leverQ s p q u) := by
 have hf := freeSz h.lds
 exact ((((leftSz h hu).mul (metaSz hK hy h)).sub ((massSz h.lds).mul (kgSz h.lds))).sub (Sz.i64 (z := 1000 * freeI s) (by omega) (by omega))).mono (by omega)
end
def limE (s : GShip) (u : Rat) : Prop := u < 0 ∨ leftQ s u ≤ 0
theorem Stab_eq {N k : Nat} {s : GShip} {p q u : Rat} {a : GAttitude} {w : GRaised} (ht : Tame s) (h1 : Qf k a.Sink p) (h2 : Qf k a.Slope q) (hk : k ≤ 400) (hx : Qf 32 w.Upthrust u) (hN : 2 ^ 64 ≤ N) :
  (bothE s w.Density ≠ 0 → f_hull_Stability N s a w = some (zeroS, bothE s w.Density)) ∧
  (bothE s w.Density = 0 → vQ s p q = 0 → f_hull_Stability N s a w = some (zeroS, 29)) ∧
  (bothE s w.Density = 0 → vQ s p q ≠ 0 → limE s u → f_hull_Stability N s a w = some (zeroS, 16)) ∧
  (bothE s w.Density = 0 → vQ s p q ≠ 0 → ¬limE s u → f_hull_Stability N s a w = some (stabQ s p q u, 0)) := by
 have start : bothE s w.Density = 0 → Fits s ∧ 900 ≤ w.Density ∧ w.Density ≤ 1100 := fun hb => by
  obtain ⟨hs, hd⟩ := both_ok hb
  have := dens_ok hd
  exact ⟨Fits.of ht hs, this.1, this.2⟩
 unfold f_hull_Stability
 rw [floated_eq ht hN, bS, cmp_neq]
 refine ⟨fun hb => by rw [dF hb]; rfl, fun hb hv => ?_, fun hb hv hl => ?_, fun hb hv hl => ?_⟩
 ·obtain ⟨hf, g0, g1⟩ := start hb
  rw [dT hb, Bool.not_true, cond_false, hyd_eq hf h1 h2 (by omega) (K := 2 * k + 98) (by omega) (hf.y32 h1 h2) (by omega) (by omega) hN, bS, if_pos hv]; rfl
 ·obtain ⟨hf, g0, g1⟩ := start hb
  have hm := mass_bd hf.lds (i := (ldsL s).length) (Nat.le_refl _)
  have z0 : Sz 64 ((0 : Int) : Rat) := Sz.i64 (by omega) (by omega)
  have zl := leftSz hf (hx.sz.mono (show 32 + 17 ≤ 49 by omega))
  rw [dT hb, Bool.not_true, cond_false, hyd_eq hf h1 h2 (by omega) (K := 2 * k + 98) (by omega) (hf.y32 h1 h2) (by omega) (by omega) hN, bS, if_neg hv, Bool.not_true, cond_false, total_eq hf.lds hN, bS]
  unfold totQ
  dsimp only
  rw [whole_eq (by unfold massI; omega) (by unfold massI; omega) hN, bS, SubRat_eq (Qf.R (massSz hf.lds)) hx (by omega) hN, bS, show (massI s : Rat) - u = leftQ s u from rfl, whole_eq (by omega) (by omega) hN, bS, CmpRat_eq hx (Qf.R z0) (by omega) hN, bS, cmp_lss, cmpQ_lt]
  by_cases hu : u < 0
  ·rw [dT (show u < ((0 : Int) : Rat) from hu)]; rfl
  ·have hl2 : leftQ s u ≤ 0 := hl.resolve_left hu
   rw [dF (show ¬u < ((0 : Int) : Rat) from hu), Bool.not_false, cond_true, bS, cond_true, CmpRat_eq (Qf.R zl) (Qf.R z0) (by omega) hN, bS, cmp_leq, cmpQ_le, dT (show leftQ s u ≤ ((0 : Int) : Rat) from hl2)]; rfl
 ·obtain ⟨hf, g0, g1⟩ := start hb
  have hy := hf.y32 h1 h2
  have hK : 2 * k + 98 ≤ 1000 := by omega
  have hm := mass_bd hf.lds (i := (ldsL s).length) (Nat.le_refl _)
  have hfr := freeSz hf.lds
  have z0 : Sz 64 ((0 : Int) : Rat) := Sz.i64 (by omega) (by omega)
  have z3 : Sz 64 ((1000 * freeI s : Int) : Rat) := Sz.i64 (by omega) (by omega)
  have hus : Sz 49 u := hx.sz.mono (show 32 + 17 ≤ 49 by omega)
  have zl := leftSz hf hus
  have zm := metaSz hK hy hf
  have zk := kgSz hf.lds
  have zv := leverSz hK hy hf hus
  have hu : ¬u < 0 := fun h => hl (.inl h)
  have hl2 : ¬leftQ s u ≤ 0 := fun h => hl (.inr h)
  have hl0 : leftQ s u ≠ 0 := by grind
  rw [dT hb, Bool.not_true, cond_false, hyd_eq hf h1 h2 (by omega) (K := 2 * k + 98) (by omega) (hf.y32 h1 h2) (by omega) (by omega) hN, bS, if_neg hv, Bool.not_true, cond_false, total_eq hf.lds hN, bS]
  unfold totQ
  dsimp only
  rw [whole_eq (by unfold massI; omega) (by unfold massI; omega) hN, bS, SubRat_eq (Qf.R (massSz hf.lds)) hx (by omega) hN, bS, show (massI s : Rat) - u = leftQ s u from rfl, whole_eq (by omega) (by omega) hN, bS, CmpRat_eq hx (Qf.R z0) (by omega) hN, bS, cmp_lss, cmpQ_lt,
   dF (show ¬u < ((0 : Int) : Rat) from hu), Bool.not_false, cond_true, bS, cond_true, CmpRat_eq (Qf.R zl) (Qf.R z0) (by omega) hN, bS, cmp_leq, cmpQ_le, dF (show ¬leftQ s u ≤ ((0 : Int) : Rat) from hl2), Bool.or_self, cond_false,
   show (hydroQ s p q w.Density).Meta = R (metaQ s p q) from rfl, times2 (Qf.R zl) (Qf.R zm) zl zm (by omega) hN, bS, bS, times2 (Qf.R (massSz hf.lds)) (Qf.R zk) (massSz hf.lds) zk (by omega) hN, bS,
   SubRat_eq (Qf.R (zl.mul zm)) (Qf.R ((massSz hf.lds).mul zk)) (by omega) hN, bS, w64 (by omega) (by omega), whole_eq (by omega) (by omega) hN, bS, SubRat_eq (Qf.R ((zl.mul zm).sub ((massSz hf.lds).mul zk))) (Qf.R z3) (by omega) hN, bS, bS,
   show leftQ s u * metaQ s p q - (massI s : Rat) * (szQ s / (massI s : Rat)) - ((1000 * freeI s : Int) : Rat) = leverQ s p q u from rfl, over_eq (Qf.R zv) (Qf.R (massSz hf.lds)) (by omega) (mass_ne hf.lds) hN, bS, over_eq (Qf.R zv) (Qf.R zl) (by omega) hl0 hN]
  rfl
end Go.KB
namespace Go.KB
set_option linter.unusedVariables false
set_option maxRecDepth 100000
instance : Inhabited GShift := ⟨⟨0, 0, 0⟩⟩
def shOk (x : GShift) : Bool := inR 0 100000000 x.Mass && inR (-100000) 100000 x.Distance && inR (-100000) 100000 x.Deflection
def shE (l : List GShift) (i : Nat) : Int := if shOk l[i]! = true then 0 else 2
section
variable (l : List GShift)
def shU (i : Nat) : Rat := (l[i]!.Mass : Rat) * (l[i]!.Distance : Rat) * (l[i]!.Deflection : Rat)
def shV (i : Nat) : Rat := ((l[i]!.Deflection * l[i]!.Deflection : Int) : Rat)
def upQ : Rat := sumQ (shU l) l.length
def dnQ : Rat := sumQ (shV l) l.length
end
section
variable {l : List GShift} {i : Nat}
theorem shOk_spec (h : shOk l[i]! = true) : (0 ≤ l[i]!.Mass ∧ l[i]!.Mass ≤ 100000000) ∧ (-100000 ≤ l[i]!.Distance ∧ l[i]!.Distance ≤ 100000) ∧ (-100000 ≤ l[i]!.Deflection ∧ l[i]!.Deflection ≤ 100000) := by
 unfold shOk at h
 simp only [Bool.and_eq_true, inR_iff] at h
 exact ⟨h.1.1, h.1.2, h.2⟩
theorem shU_sz (h : shOk l[i]! = true) : Sz 192 (shU l i) := by
 obtain ⟨h1, h2, h3⟩ := shOk_spec h
 exact (((Sz.i64 (by omega) (by omega)).mul (Sz.i64 (by omega) (by omega))).mul (Sz.i64 (by omega) (by omega))).mono (by omega)
theorem shF_bd (h : shOk l[i]! = true) : 0 ≤ l[i]!.Deflection * l[i]!.Deflection ∧ l[i]!.Deflection * l[i]!.Deflection ≤ 10000000000 := by
 obtain ⟨h1, h2, h3⟩ := shOk_spec h
 have := mulB (a := l[i]!.Deflection) (b := l[i]!.Deflection) (A := 100000) (B := 100000) (by omega) (by omega)
 have h0 : 0 ≤ l[i]!.Deflection * l[i]!.Deflection := by
  rcases Int.le_total 0 l[i]!.Deflection with h | h
  ·exact Int.mul_nonneg h h
  ·exact Int.mul_nonneg_of_nonpos_of_nonpos h h
 omega
theorem shV_sz (h : shOk l[i]! = true) : Sz 64 (shV l i) := by have := shF_bd h; exact Sz.i64 (by omega) (by omega)
theorem sh_all (hz : ∀ j, j < i → shE l j = 0) : ∀ j, j < i → shOk l[j]! = true := fun j hj => by
 have := hz j hj
 unfold shE at this
 split at this
 ·rename_i h; exact h
 ·cases this
theorem upSz (hz : ∀ j, j < i → shOk l[j]! = true) (hi : i ≤ 45) : Sz 9000 (sumQ (shU l) i) := sumSz' (fun k hk => shU_sz (hz k hk)) (Nat.le_refl _) (Nat.le_trans (Nat.mul_le_mul_left _ hi) (by omega))
theorem dnSz (hz : ∀ j, j < i → shOk l[j]! = true) (hi : i ≤ 45) : Sz 3000 (sumQ (shV l) i) := sumSz' (fun k hk => shV_sz (hz k hk)) (Nat.le_refl _) (Nat.le_trans (Nat.mul_le_mul_left _ hi) (by omega))
end
section
variable {N : Nat} {t : GIncline} (hn : t.Shifts.length ≤ 45) (hN : 2 ^ 64 ≤ N)
include hn hN
theorem exp_loop : loopN (f_hull_Experiment_L1 N t) N (zeroS, R ((0 : Int) : Rat), R ((0 : Int) : Rat), 0) = some (errOr (Sum.inl (zeroS, R (upQ t.Shifts), R (dnQ t.Shifts))) (fun z => Sum.inr (zeroS, z)) (firstErr (shE t.Shifts) t.Shifts.length 0)) := by
  refine loop_errG (f := f_hull_Experiment_L1 N t) (e := shE t.Shifts) (N := N) (n := t.Shifts.length) (fin := Sum.inl (zeroS, R (upQ t.Shifts), R (dnQ t.Shifts))) (err := fun z => Sum.inr (zeroS, z)) (fun i => (zeroS, R (sumQ (shU t.Shifts) i), R (sumQ (shV t.Shifts) i), (i : Int))) (fun i hi hz => ?_) (fun _ => ?_) (by omega)
  · have hz := sh_all hz
    unfold f_hull_Experiment_L1
    simp only [cmp_lss]
    rw [dT (by omega), cond_true, idxB hi, bS, between_eq, bS, between_eq, between_eq]
    have hc : (((bif (!(!inR 0 100000000 t.Shifts[i]!.Mass)) then some (inR (-100000) 100000 t.Shifts[i]!.Distance) else some false).bind fun v9 => (bif (!((!inR 0 100000000 t.Shifts[i]!.Mass) || (!v9))) then some (inR (-100000) 100000 t.Shifts[i]!.Deflection) else some false).bind fun v10 => some (((!inR 0 100000000 t.Shifts[i]!.Mass) || (!v9)) || (!v10))) : Option Bool) = some (!shOk t.Shifts[i]!) := by
      unfold shOk
      cases inR 0 100000000 t.Shifts[i]!.Mass <;> cases inR (-100000) 100000 t.Shifts[i]!.Distance <;> cases inR (-100000) 100000 t.Shifts[i]!.Deflection <;> rfl
    have key : ∀ (X Y : Option ((GStable × GRat × GRat × Int) ⊕ ((GStable × GRat × GRat) ⊕ (GStable × Int)))), ((bif (!(!inR 0 100000000 t.Shifts[i]!.Mass)) then some (inR (-100000) 100000 t.Shifts[i]!.Distance) else some false).bind fun v9 => (bif (!((!inR 0 100000000 t.Shifts[i]!.Mass) || (!v9))) then some (inR (-100000) 100000 t.Shifts[i]!.Deflection) else some false).bind fun v10 => bif (((!inR 0 100000000 t.Shifts[i]!.Mass) || (!v9)) || (!v10)) then X else Y) = bif !shOk t.Shifts[i]! then X else Y := fun X Y => by
      unfold shOk
      cases inR 0 100000000 t.Shifts[i]!.Mass <;> cases inR (-100000) 100000 t.Shifts[i]!.Distance <;> cases inR (-100000) 100000 t.Shifts[i]!.Deflection <;> rfl
    rw [key]
    unfold shE
    by_cases ho : shOk t.Shifts[i]! = true
    · obtain ⟨h1, h2, h3⟩ := shOk_spec ho
      have hb := shF_bd ho
      have z1 : Sz 64 ((t.Shifts[i]!.Mass : Int) : Rat) := Sz.i64 (by omega) (by omega)
      have z2 : Sz 64 ((t.Shifts[i]!.Distance : Int) : Rat) := Sz.i64 (by omega) (by omega)
      have z3 : Sz 64 ((t.Shifts[i]!.Deflection : Int) : Rat) := Sz.i64 (by omega) (by omega)
      rw [ho, Bool.not_true, cond_false, if_pos rfl, if_pos rfl, whole_eq (by omega) (by omega) hN, bS, whole_eq (by omega) (by omega) hN, bS, whole_eq (by omega) (by omega) hN, bS, times3 (Qf.R z1) (Qf.R z2) (Qf.R z3) z1 z2 z3 (by omega) hN, bS,
        show ((t.Shifts[i]!.Mass : Int) : Rat) * ((t.Shifts[i]!.Distance : Int) : Rat) * ((t.Shifts[i]!.Deflection : Int) : Rat) = shU t.Shifts i from rfl, AddRat_eq (Qf.R (upSz hz (by omega))) (Qf.R (shU_sz ho)) (by omega) hN, bS, w64 (by omega) (by omega), whole_eq (by omega) (by omega) hN, bS,
        show ((t.Shifts[i]!.Deflection * t.Shifts[i]!.Deflection : Int) : Rat) = shV t.Shifts i from rfl, AddRat_eq (Qf.R (dnSz hz (by omega))) (Qf.R (shV_sz ho)) (by omega) hN, bS, w64s (by omega)]
      rfl
    · rw [if_neg ho, if_neg (by omega)]
      rw [Bool.not_eq_true] at ho
      rw [ho]; rfl
  · unfold f_hull_Experiment_L1
    simp only [cmp_lss]
    rw [dF (by omega)]; rfl
end
section
variable (t : GIncline) (p q : Rat)
def metaE : Rat := zQ' t.Ship p q / vQ t.Ship p q + cQ t.Ship p q / vQ t.Ship p q
def dispE : Rat := kgQ (vQ t.Ship p q) t.Density
def gmE : Rat := upQ t.Shifts * (t.Pendulum : Rat) / (dispE t p q * dnQ t.Shifts)
def solE : Rat := gmE t p q + ((1000 * freeI t.Ship : Int) : Rat) / dispE t p q
def expQ : GStable := ⟨R (metaE t p q), R (metaE t p q - solE t p q), R (gmE t p q), R (solE t p q)⟩
def expE : Int := if bothE t.Ship t.Density = 0 then (if vQ t.Ship p q = 0 then 29 else if inR 1 100000 t.Pendulum = true then (if 40 < t.Shifts.length then 8 else firstErr (shE t.Shifts) t.Shifts.length 0) else 2) else bothE t.Ship t.Density
end
section
variable {N k : Nat} {t : GIncline} {p q : Rat} (hn : t.Shifts.length ≤ 45) (hN : 2 ^ 64 ≤ N) (h1 : Qf k t.Attitude.Sink p) (h2 : Qf k t.Attitude.Slope q) (hk : k ≤ 400)
include hn hN h1 h2 hk
omit hN in
theorem exp_sz (hf : Fits t.Ship) (hd : 900 ≤ t.Density ∧ t.Density ≤ 1100) (hp : 1 ≤ t.Pendulum ∧ t.Pendulum ≤ 100000) (hz : ∀ j, j < t.Shifts.length → shOk t.Shifts[j]! = true) :
  Sz 220000 (metaE t p q) ∧ Sz 56000 (dispE t p q) ∧ Sz 69000 (gmE t p q) ∧ Sz 126000 (solE t p q) ∧ Sz 9000 (upQ t.Shifts) ∧ Sz 3000 (dnQ t.Shifts) ∧ Sz 64 (t.Pendulum : Rat) ∧ Sz 64 ((1000 * freeI t.Ship : Int) : Rat) := by
 obtain ⟨s1, s2, _, _⟩ := hydro_sz (K := 2 * k + 98) (by omega) (hf.y32 h1 h2) hf (d := t.Density) (by omega) (by omega)
 have hfr := freeSz hf.lds
 have zu : Sz 9000 (upQ t.Shifts) := upSz hz hn
 have zd : Sz 3000 (dnQ t.Shifts) := dnSz hz hn
 have zp : Sz 64 (t.Pendulum : Rat) := Sz.i64 (by omega) (by omega)
 have zf : Sz 64 ((1000 * freeI t.Ship : Int) : Rat) := Sz.i64 (by omega) (by omega)
 have zg : Sz 69000 (gmE t p q) := ((zu.mul zp).div (Sz.mul (s1 : Sz 56000 (dispE t p q)) zd)).mono (by omega)
 exact ⟨s2, s1, zg, (zg.add (zf.div (s1 : Sz 56000 (dispE t p q)))).mono (by omega), zu, zd, zp, zf⟩
omit hn hN h1 h2 hk in
theorem disp_ne (hd : 900 ≤ t.Density ∧ t.Density ≤ 1100) (hV : vQ t.Ship p q ≠ 0) : dispE t p q ≠ 0 := by
 unfold dispE kgQ
 have h1 := rat_ne (show t.Density ≠ 0 by omega)
 have h2 := rat_ne (show (1000000000 : Int) ≠ 0 by omega)
 intro e
 have : vQ t.Ship p q * (t.Density : Rat) = 0 := by grind
 rcases Rat.mul_eq_zero.1 this with h | h
 ·exact hV h
 ·exact h1 h
theorem exp_all (ht : Tame t.Ship) :
    (expE t p q ≠ 0 → f_hull_Experiment N t = some (zeroS, expE t p q)) ∧
    (expE t p q = 0 → dnQ t.Shifts = 0 → f_hull_Experiment N t = some (zeroS, 9)) ∧
    (expE t p q = 0 → dnQ t.Shifts ≠ 0 → f_hull_Experiment N t = some (expQ t p q, 0)) := by
  have main : f_hull_Experiment N t = some (if expE t p q = 0 then (if dnQ t.Shifts = 0 then (zeroS, 9) else (expQ t p q, 0)) else (zeroS, expE t p q)) := by
    unfold f_hull_Experiment expE
    rw [floated_eq ht hN, bS, cmp_neq]
    by_cases hb : bothE t.Ship t.Density = 0
    · obtain ⟨hs, hd⟩ := both_ok hb
      have hf := Fits.of ht hs
      have hd := dens_ok hd
      rw [dT hb, if_pos hb, Bool.not_true, cond_false, hyd_eq hf h1 h2 (by omega) (K := 2 * k + 98) (by omega) (hf.y32 h1 h2) (by omega) (by omega) hN, bS]
      by_cases hV : vQ t.Ship p q = 0
      · rw [if_pos hV, if_pos hV]; rfl
      · rw [if_neg hV, if_neg hV, between_eq, bS, Bool.not_true, cond_false]
        by_cases hp : inR 1 100000 t.Pendulum = true
        · rw [hp, if_pos rfl, Bool.not_true, cond_false, cmp_gtr]
          rw [inR_iff] at hp
          by_cases hl : 40 < t.Shifts.length
          · rw [dT (by omega), if_pos hl]; rfl
          · rw [dF (by omega), if_neg hl, cond_false, whole_eq (by omega) (by omega) hN, bS, bS]
            rw [show loopN (f_hull_Experiment_L1 N t) N ((⟨(⟨(⟨false, []⟩ : GInt), (⟨false, []⟩ : GInt)⟩ : GRat), (⟨(⟨false, []⟩ : GInt), (⟨false, []⟩ : GInt)⟩ : GRat), (⟨(⟨false, []⟩ : GInt), (⟨false, []⟩ : GInt)⟩ : GRat), (⟨(⟨false, []⟩ : GInt), (⟨false, []⟩ : GInt)⟩ : GRat)⟩ : GStable), R ((0 : Int) : Rat), R ((0 : Int) : Rat), 0) = _ from exp_loop hn hN, bS]
            unfold errOr
            by_cases hz : firstErr (shE t.Shifts) t.Shifts.length 0 = 0
            · rw [if_pos hz, if_pos hz, Sum.elim_inl]
              have hok : ∀ j, j < t.Shifts.length → shOk t.Shifts[j]! = true := sh_all fun j hj => firstErr_zero hz j (by omega) (by omega)
              obtain ⟨zm, zs, zg, zo, zu, zd, zp, zf⟩ := exp_sz hn h1 h2 hk hf hd hp hok
              have hfr := freeSz hf.lds
              have hdn := disp_ne (p := p) (q := q) hd hV
              dsimp only
              rw [hisZero_eq (Qf.R zd) (by omega) hN, bS]
              by_cases h0 : dnQ t.Shifts = 0
              · rw [dT h0, if_pos h0]; rfl
              · have hm0 : dispE t p q * dnQ t.Shifts ≠ 0 := fun e => (Rat.mul_eq_zero.1 e).elim hdn h0
                rw [dF h0, if_neg h0, cond_false, whole_eq (by omega) (by omega) hN, bS, times2 (Qf.R zu) (Qf.R zp) zu zp (by omega) hN, bS, show (hydroQ t.Ship p q t.Density).Displacement = R (dispE t p q) from rfl, times2 (Qf.R zs) (Qf.R zd) zs zd (by omega) hN, bS,
                  over_eq (Qf.R (zu.mul zp)) (Qf.R (zs.mul zd)) (by omega) hm0 hN, bS, show upQ t.Shifts * (t.Pendulum : Rat) / (dispE t p q * dnQ t.Shifts) = gmE t p q from rfl, total_eq hf.lds hN, bS, show (totQ t.Ship).Free = freeI t.Ship from rfl, w64 (by omega) (by omega), whole_eq (by omega) (by omega) hN, bS,
                  over_eq (Qf.R zf) (Qf.R zs) (by omega) hdn hN, bS, AddRat_eq (Qf.R zg) (Qf.R (zf.div zs)) (by omega) hN, bS, show gmE t p q + ((1000 * freeI t.Ship : Int) : Rat) / dispE t p q = solE t p q from rfl, show (hydroQ t.Ship p q t.Density).Meta = R (metaE t p q) from rfl, SubRat_eq (Qf.R zm) (Qf.R zo) (by omega) hN]
                rfl
            · rw [if_neg hz, if_neg hz]; rfl
        · rw [Bool.not_eq_true] at hp
          rw [hp]; rfl
    · rw [dF hb, if_neg hb, if_neg hb]; rfl
  refine ⟨fun h => by rw [main, if_neg h], fun h h0 => by rw [main, if_pos h, if_pos h0], fun h h0 => by rw [main, if_pos h, if_neg h0]⟩
end
end Go.KB
