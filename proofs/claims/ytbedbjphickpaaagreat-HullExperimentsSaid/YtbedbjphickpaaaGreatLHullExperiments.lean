/- The plain law of HullExperiments: it returns true for every experiment. No condition. -/
import Derived.Test.YtbedbjphickpaaaGreatPZg
import Derived.Test.YtbedbjphickpaaaGreatPZe
namespace Go.KB
set_option linter.unusedVariables false
set_option maxRecDepth 100000

instance : Inhabited GShift := ⟨⟨0, 0, 0⟩⟩
def shOk (x : GShift) : Bool := inR 0 100000000 x.Mass && inR (-100000) 100000 x.Distance && inR (-100000) 100000 x.Deflection
def shE (l : List GShift) (i : Nat) : Int := if shOk l[i]! = true then 0 else 2
section
variable (l : List GShift)
def shU (i : Nat) : Rat := (l[i]!.Mass : Rat) * (l[i]!.Distance : Rat) * (l[i]!.Deflection : Rat)
def shV (i : Nat) : Rat := ((l[i]!.Deflection * l[i]!.Deflection : Int) : Rat)
def upQ : Rat := sumQ (shU l) l.length
def dnQ : Rat := sumQ (shV l) l.length
end
section
variable {l : List GShift} {i : Nat}
theorem shOk_spec (h : shOk l[i]! = true) : (0 ≤ l[i]!.Mass ∧ l[i]!.Mass ≤ 100000000) ∧ (-100000 ≤ l[i]!.Distance ∧ l[i]!.Distance ≤ 100000) ∧ (-100000 ≤ l[i]!.Deflection ∧ l[i]!.Deflection ≤ 100000) := by
  unfold shOk at h
  simp only [Bool.and_eq_true, inR_iff] at h
  exact ⟨h.1.1, h.1.2, h.2⟩
theorem shU_sz (h : shOk l[i]! = true) : Sz 192 (shU l i) := by
  obtain ⟨h1, h2, h3⟩ := shOk_spec h
  exact (((Sz.i64 (by omega) (by omega)).mul (Sz.i64 (by omega) (by omega))).mul (Sz.i64 (by omega) (by omega))).mono (by omega)
theorem shF_bd (h : shOk l[i]! = true) : 0 ≤ l[i]!.Deflection * l[i]!.Deflection ∧ l[i]!.Deflection * l[i]!.Deflection ≤ 10000000000 := by
  obtain ⟨h1, h2, h3⟩ := shOk_spec h
  have := mulB (a := l[i]!.Deflection) (b := l[i]!.Deflection) (A := 100000) (B := 100000) (by omega) (by omega)
  have h0 : 0 ≤ l[i]!.Deflection * l[i]!.Deflection := by
    rcases Int.le_total 0 l[i]!.Deflection with h | h
    · exact Int.mul_nonneg h h
    · exact Int.mul_nonneg_of_nonpos_of_nonpos h h
  omega
theorem shD_bd (h : shOk l[i]! = true) : -10000000000000 ≤ l[i]!.Mass * l[i]!.Distance ∧ l[i]!.Mass * l[i]!.Distance ≤ 10000000000000 := by
  obtain ⟨h1, h2, h3⟩ := shOk_spec h
  have := mulB (a := l[i]!.Mass) (b := l[i]!.Distance) (A := 100000000) (B := 100000) (by omega) (by omega)
  omega
theorem shV_sz (h : shOk l[i]! = true) : Sz 64 (shV l i) := by have := shF_bd h; exact Sz.i64 (by omega) (by omega)
theorem sh_all (hz : ∀ j, j < i → shE l j = 0) : ∀ j, j < i → shOk l[j]! = true := fun j hj => by
  have := hz j hj
  unfold shE at this
  split at this
  · rename_i h; exact h
  · cases this
theorem upSz (hz : ∀ j, j < i → shOk l[j]! = true) (hi : i ≤ 45) : Sz 9000 (sumQ (shU l) i) := sumSz' (fun k hk => shU_sz (hz k hk)) (Nat.le_refl _) (Nat.le_trans (Nat.mul_le_mul_left _ hi) (by omega))
theorem dnSz (hz : ∀ j, j < i → shOk l[j]! = true) (hi : i ≤ 45) : Sz 3000 (sumQ (shV l) i) := sumSz' (fun k hk => shV_sz (hz k hk)) (Nat.le_refl _) (Nat.le_trans (Nat.mul_le_mul_left _ hi) (by omega))
end
theorem rShift_eq {N : Nat} {l : List GShift} {i : Nat} : f_ref02_ShiftErr N l[i]! = some (shE l i) := by
  unfold f_ref02_ShiftErr shE shOk
  rw [rwithin_eq, bS, rwithin_eq, rwithin_eq]
  cases inR 0 100000000 l[i]!.Mass <;> cases inR (-100000) 100000 l[i]!.Distance <;> cases inR (-100000) 100000 l[i]!.Deflection <;> rfl
section
variable {N : Nat} {t : GIncline} (hn : t.Shifts.length ≤ 45) (hN : 2 ^ 64 ≤ N)
include hn hN
theorem exp_loop : loopN (f_hull_Experiment_L1 N t) N (zeroS, R ((0 : Int) : Rat), R ((0 : Int) : Rat), 0) = some (errOr (Sum.inl (zeroS, R (upQ t.Shifts), R (dnQ t.Shifts))) (fun z => Sum.inr (zeroS, z)) (firstErr (shE t.Shifts) t.Shifts.length 0)) := by
  refine loop_errG (f := f_hull_Experiment_L1 N t) (e := shE t.Shifts) (N := N) (n := t.Shifts.length) (fin := Sum.inl (zeroS, R (upQ t.Shifts), R (dnQ t.Shifts))) (err := fun z => Sum.inr (zeroS, z)) (fun i => (zeroS, R (sumQ (shU t.Shifts) i), R (sumQ (shV t.Shifts) i), (i : Int))) (fun i hi hz => ?_) (fun _ => ?_) (by omega)
  · have hz := sh_all hz
    unfold f_hull_Experiment_L1
    simp only [cmp_lss]
    rw [dT (by omega), cond_true, idxB hi, bS, between_eq, bS, between_eq, between_eq]
    have hc : (((bif (!(!inR 0 100000000 t.Shifts[i]!.Mass)) then some (inR (-100000) 100000 t.Shifts[i]!.Distance) else some false).bind fun v9 => (bif (!((!inR 0 100000000 t.Shifts[i]!.Mass) || (!v9))) then some (inR (-100000) 100000 t.Shifts[i]!.Deflection) else some false).bind fun v10 => some (((!inR 0 100000000 t.Shifts[i]!.Mass) || (!v9)) || (!v10))) : Option Bool) = some (!shOk t.Shifts[i]!) := by
      unfold shOk
      cases inR 0 100000000 t.Shifts[i]!.Mass <;> cases inR (-100000) 100000 t.Shifts[i]!.Distance <;> cases inR (-100000) 100000 t.Shifts[i]!.Deflection <;> rfl
    have key : ∀ (X Y : Option ((GStable × GRat × GRat × Int) ⊕ ((GStable × GRat × GRat) ⊕ (GStable × Int)))), ((bif (!(!inR 0 100000000 t.Shifts[i]!.Mass)) then some (inR (-100000) 100000 t.Shifts[i]!.Distance) else some false).bind fun v9 => (bif (!((!inR 0 100000000 t.Shifts[i]!.Mass) || (!v9))) then some (inR (-100000) 100000 t.Shifts[i]!.Deflection) else some false).bind fun v10 => bif (((!inR 0 100000000 t.Shifts[i]!.Mass) || (!v9)) || (!v10)) then X else Y) = bif !shOk t.Shifts[i]! then X else Y := fun X Y => by
      unfold shOk
      cases inR 0 100000000 t.Shifts[i]!.Mass <;> cases inR (-100000) 100000 t.Shifts[i]!.Distance <;> cases inR (-100000) 100000 t.Shifts[i]!.Deflection <;> rfl
    rw [key]
    unfold shE
    by_cases ho : shOk t.Shifts[i]! = true
    · obtain ⟨h1, h2, h3⟩ := shOk_spec ho
      have hb := shF_bd ho
      have z1 : Sz 64 ((t.Shifts[i]!.Mass : Int) : Rat) := Sz.i64 (by omega) (by omega)
      have z2 : Sz 64 ((t.Shifts[i]!.Distance : Int) : Rat) := Sz.i64 (by omega) (by omega)
      have z3 : Sz 64 ((t.Shifts[i]!.Deflection : Int) : Rat) := Sz.i64 (by omega) (by omega)
      rw [ho, Bool.not_true, cond_false, if_pos rfl, if_pos rfl, whole_eq (by omega) (by omega) hN, bS, whole_eq (by omega) (by omega) hN, bS, whole_eq (by omega) (by omega) hN, bS, times3 (Qf.R z1) (Qf.R z2) (Qf.R z3) z1 z2 z3 (by omega) hN, bS,
        show ((t.Shifts[i]!.Mass : Int) : Rat) * ((t.Shifts[i]!.Distance : Int) : Rat) * ((t.Shifts[i]!.Deflection : Int) : Rat) = shU t.Shifts i from rfl, AddRat_eq (Qf.R (upSz hz (by omega))) (Qf.R (shU_sz ho)) (by omega) hN, bS, w64 (by omega) (by omega), whole_eq (by omega) (by omega) hN, bS,
        show ((t.Shifts[i]!.Deflection * t.Shifts[i]!.Deflection : Int) : Rat) = shV t.Shifts i from rfl, AddRat_eq (Qf.R (dnSz hz (by omega))) (Qf.R (shV_sz ho)) (by omega) hN, bS, w64s (by omega)]
      rfl
    · rw [if_neg ho, if_neg (by omega)]
      rw [Bool.not_eq_true] at ho
      rw [ho]; rfl
  · unfold f_hull_Experiment_L1
    simp only [cmp_lss]
    rw [dF (by omega)]; rfl
theorem rexp_loop (hz : ∀ j, j < t.Shifts.length → shOk t.Shifts[j]! = true) : loopN (f_ref02_Experiment_L1 N t) N (R ((0 : Int) : Rat), R ((0 : Int) : Rat), 0) = some (R (upQ t.Shifts), R (dnQ t.Shifts)) := by
  have := loop_errG (f := f_ref02_Experiment_L1 N t) (e := fun _ => 0) (N := N) (n := t.Shifts.length) (fin := (R (upQ t.Shifts), R (dnQ t.Shifts))) (err := fun _ => (R (upQ t.Shifts), R (dnQ t.Shifts))) (fun i => (R (sumQ (shU t.Shifts) i), R (sumQ (shV t.Shifts) i), (i : Int))) (fun i hi _ => by
    have ho := hz i hi
    have hz' : ∀ j, j < i → shOk t.Shifts[j]! = true := fun j hj => hz j (by omega)
    obtain ⟨h1, h2, h3⟩ := shOk_spec ho
    have hb := shF_bd ho; have hd := shD_bd ho
    have z1 : Sz 64 ((t.Shifts[i]!.Mass * t.Shifts[i]!.Distance : Int) : Rat) := Sz.i64 (by omega) (by omega)
    have z3 : Sz 64 ((t.Shifts[i]!.Deflection : Int) : Rat) := Sz.i64 (by omega) (by omega)
    have e : ((t.Shifts[i]!.Mass * t.Shifts[i]!.Distance : Int) : Rat) * ((t.Shifts[i]!.Deflection : Int) : Rat) = shU t.Shifts i := by unfold shU; rw [Rat.intCast_mul]
    unfold f_ref02_Experiment_L1
    simp only [cmp_lss]
    rw [dT (by omega), cond_true, idxB hi, bS, w64 (n := t.Shifts[i]!.Mass * t.Shifts[i]!.Distance) (by omega) (by omega), W_R (by omega) (by omega) hN, bS, W_R (by omega) (by omega) hN, bS, rMulRat_eq (Qf.R z1) (Qf.R z3) (by omega) hN, bS, e, rAddRat_eq (Qf.R (upSz hz' (by omega))) (Qf.R (shU_sz ho)) (by omega) hN, bS,
      w64 (by omega) (by omega), W_R (by omega) (by omega) hN, bS, show ((t.Shifts[i]!.Deflection * t.Shifts[i]!.Deflection : Int) : Rat) = shV t.Shifts i from rfl, rAddRat_eq (Qf.R (dnSz hz' (by omega))) (Qf.R (shV_sz ho)) (by omega) hN, bS, w64s (by omega)]
    rfl) (fun _ => by
    unfold f_ref02_Experiment_L1
    simp only [cmp_lss]
    rw [dF (by omega)]; rfl) (by omega)
  rw [firstErr_nil] at this
  exact this
omit hn hN in
theorem law_stop {z : Int} {i : Nat} (hz : z ≠ 0) {M : Nat} (hM : 1 ≤ M) : loopN (f_law02_HullExperiments_L1 N t) M (z, (i : Int)) = some z := by
  obtain ⟨M, rfl⟩ : ∃ m, M = m + 1 := ⟨M - 1, by omega⟩
  have : f_law02_HullExperiments_L1 N t (z, (i : Int)) = some (.inr z) := by
    unfold f_law02_HullExperiments_L1
    simp only [cmp_eql]
    rw [dF hz, Bool.and_false]; rfl
  simp only [loopN, this]
omit hN in
theorem law_loop : ∀ (k i : Nat), i + k = t.Shifts.length → ∀ M, k + 1 < M → loopN (f_law02_HullExperiments_L1 N t) M (0, (i : Int)) = some (firstErr (shE t.Shifts) k i) := by
  intro k
  induction k with
  | zero =>
    intro i hi M hM
    obtain ⟨M, rfl⟩ : ∃ m, M = m + 1 := ⟨M - 1, by omega⟩
    have : f_law02_HullExperiments_L1 N t (0, (i : Int)) = some (.inr 0) := by
      unfold f_law02_HullExperiments_L1
      simp only [cmp_lss]
      rw [dF (by omega)]; rfl
    simp only [loopN, this]; rfl
  | succ k ih =>
    intro i hi M hM
    obtain ⟨M, rfl⟩ : ∃ m, M = m + 1 := ⟨M - 1, by omega⟩
    have : f_law02_HullExperiments_L1 N t (0, (i : Int)) = some (.inl (shE t.Shifts i, ((i + 1 : Nat) : Int))) := by
      unfold f_law02_HullExperiments_L1
      simp only [cmp_lss, cmp_eql]
      rw [dT (by omega), dT trivial, Bool.and_self, cond_true, idxB (by omega), bS, rShift_eq, bS, w64s (by omega)]
    simp only [loopN, this]
    by_cases h : shE t.Shifts i = 0
    · rw [firstErr_s0 h, h]
      exact ih (i + 1) (by omega) M (by omega)
    · rw [firstErr_s1 h]
      exact law_stop h (by omega)
end
section
variable (t : GIncline) (p q : Rat)
def metaE : Rat := zQ' t.Ship p q / vQ t.Ship p q + cQ t.Ship p q / vQ t.Ship p q
def dispE : Rat := kgQ (vQ t.Ship p q) t.Density
def gmE : Rat := upQ t.Shifts * (t.Pendulum : Rat) / (dispE t p q * dnQ t.Shifts)
def solE : Rat := gmE t p q + ((1000 * freeI t.Ship : Int) : Rat) / dispE t p q
def expQ : GStable := ⟨R (metaE t p q), R (metaE t p q - solE t p q), R (gmE t p q), R (solE t p q)⟩
def expE : Int := if bothE t.Ship t.Density = 0 then (if vQ t.Ship p q = 0 then 29 else if inR 1 100000 t.Pendulum = true then (if 40 < t.Shifts.length then 8 else firstErr (shE t.Shifts) t.Shifts.length 0) else 2) else bothE t.Ship t.Density
end
section
variable {N k : Nat} {t : GIncline} {p q : Rat} (hn : t.Shifts.length ≤ 45) (hN : 2 ^ 64 ≤ N) (h1 : Qf k t.Attitude.Sink p) (h2 : Qf k t.Attitude.Slope q) (hk : k ≤ 400)
include hn hN h1 h2 hk
omit hN in
theorem exp_sz (hf : Fits t.Ship) (hd : 900 ≤ t.Density ∧ t.Density ≤ 1100) (hp : 1 ≤ t.Pendulum ∧ t.Pendulum ≤ 100000) (hz : ∀ j, j < t.Shifts.length → shOk t.Shifts[j]! = true) :
    Sz 220000 (metaE t p q) ∧ Sz 56000 (dispE t p q) ∧ Sz 69000 (gmE t p q) ∧ Sz 126000 (solE t p q) ∧ Sz 9000 (upQ t.Shifts) ∧ Sz 3000 (dnQ t.Shifts) ∧ Sz 64 (t.Pendulum : Rat) ∧ Sz 64 ((1000 * freeI t.Ship : Int) : Rat) := by
  obtain ⟨s1, s2, _, _⟩ := hydro_sz (K := 2 * k + 98) (by omega) (hf.y32 h1 h2) hf (d := t.Density) (by omega) (by omega)
  have hfr := freeSz hf.lds
  have zu : Sz 9000 (upQ t.Shifts) := upSz hz hn
  have zd : Sz 3000 (dnQ t.Shifts) := dnSz hz hn
  have zp : Sz 64 (t.Pendulum : Rat) := Sz.i64 (by omega) (by omega)
  have zf : Sz 64 ((1000 * freeI t.Ship : Int) : Rat) := Sz.i64 (by omega) (by omega)
  have zg : Sz 69000 (gmE t p q) := ((zu.mul zp).div (Sz.mul (s1 : Sz 56000 (dispE t p q)) zd)).mono (by omega)
  exact ⟨s2, s1, zg, (zg.add (zf.div (s1 : Sz 56000 (dispE t p q)))).mono (by omega), zu, zd, zp, zf⟩
omit hn hN h1 h2 hk in
theorem disp_ne (hd : 900 ≤ t.Density ∧ t.Density ≤ 1100) (hV : vQ t.Ship p q ≠ 0) : dispE t p q ≠ 0 := by
  unfold dispE kgQ
  have h1 := rat_ne (show t.Density ≠ 0 by omega)
  have h2 := rat_ne (show (1000000000 : Int) ≠ 0 by omega)
  intro e
  have : vQ t.Ship p q * (t.Density : Rat) = 0 := by grind
  rcases Rat.mul_eq_zero.1 this with h | h
  · exact hV h
  · exact h1 h
theorem exp_all (ht : Tame t.Ship) :
    (expE t p q ≠ 0 → f_hull_Experiment N t = some (zeroS, expE t p q)) ∧
    (expE t p q = 0 → dnQ t.Shifts = 0 → f_hull_Experiment N t = some (zeroS, 9)) ∧
    (expE t p q = 0 → dnQ t.Shifts ≠ 0 → f_hull_Experiment N t = some (expQ t p q, 0)) := by
  have main : f_hull_Experiment N t = some (if expE t p q = 0 then (if dnQ t.Shifts = 0 then (zeroS, 9) else (expQ t p q, 0)) else (zeroS, expE t p q)) := by
    unfold f_hull_Experiment expE
    rw [floated_eq ht hN, bS, cmp_neq]
    by_cases hb : bothE t.Ship t.Density = 0
    · obtain ⟨hs, hd⟩ := both_ok hb
      have hf := Fits.of ht hs
      have hd := dens_ok hd
      rw [dT hb, if_pos hb, Bool.not_true, cond_false, hyd_eq hf h1 h2 (by omega) (K := 2 * k + 98) (by omega) (hf.y32 h1 h2) (by omega) (by omega) hN, bS]
      by_cases hV : vQ t.Ship p q = 0
      · rw [if_pos hV, if_pos hV]; rfl
      · rw [if_neg hV, if_neg hV, between_eq, bS, Bool.not_true, cond_false]
        by_cases hp : inR 1 100000 t.Pendulum = true
        · rw [hp, if_pos rfl, Bool.not_true, cond_false, cmp_gtr]
          rw [inR_iff] at hp
          by_cases hl : 40 < t.Shifts.length
          · rw [dT (by omega), if_pos hl]; rfl
          · rw [dF (by omega), if_neg hl, cond_false, whole_eq (by omega) (by omega) hN, bS, bS]
            rw [show loopN (f_hull_Experiment_L1 N t) N ((⟨(⟨(⟨false, []⟩ : GInt), (⟨false, []⟩ : GInt)⟩ : GRat), (⟨(⟨false, []⟩ : GInt), (⟨false, []⟩ : GInt)⟩ : GRat), (⟨(⟨false, []⟩ : GInt), (⟨false, []⟩ : GInt)⟩ : GRat), (⟨(⟨false, []⟩ : GInt), (⟨false, []⟩ : GInt)⟩ : GRat)⟩ : GStable), R ((0 : Int) : Rat), R ((0 : Int) : Rat), 0) = _ from exp_loop hn hN, bS]
            unfold errOr
            by_cases hz : firstErr (shE t.Shifts) t.Shifts.length 0 = 0
            · rw [if_pos hz, if_pos hz, Sum.elim_inl]
              have hok : ∀ j, j < t.Shifts.length → shOk t.Shifts[j]! = true := sh_all fun j hj => firstErr_zero hz j (by omega) (by omega)
              obtain ⟨zm, zs, zg, zo, zu, zd, zp, zf⟩ := exp_sz hn h1 h2 hk hf hd hp hok
              have hfr := freeSz hf.lds
              have hdn := disp_ne (p := p) (q := q) hd hV
              dsimp only
              rw [hisZero_eq (Qf.R zd) (by omega) hN, bS]
              by_cases h0 : dnQ t.Shifts = 0
              · rw [dT h0, if_pos h0]; rfl
              · have hm0 : dispE t p q * dnQ t.Shifts ≠ 0 := fun e => (Rat.mul_eq_zero.1 e).elim hdn h0
                rw [dF h0, if_neg h0, cond_false, whole_eq (by omega) (by omega) hN, bS, times2 (Qf.R zu) (Qf.R zp) zu zp (by omega) hN, bS, show (hydroQ t.Ship p q t.Density).Displacement = R (dispE t p q) from rfl, times2 (Qf.R zs) (Qf.R zd) zs zd (by omega) hN, bS,
                  over_eq (Qf.R (zu.mul zp)) (Qf.R (zs.mul zd)) (by omega) hm0 hN, bS, show upQ t.Shifts * (t.Pendulum : Rat) / (dispE t p q * dnQ t.Shifts) = gmE t p q from rfl, total_eq hf.lds hN, bS, show (totQ t.Ship).Free = freeI t.Ship from rfl, w64 (by omega) (by omega), whole_eq (by omega) (by omega) hN, bS,
                  over_eq (Qf.R zf) (Qf.R zs) (by omega) hdn hN, bS, AddRat_eq (Qf.R zg) (Qf.R (zf.div zs)) (by omega) hN, bS, show gmE t p q + ((1000 * freeI t.Ship : Int) : Rat) / dispE t p q = solE t p q from rfl, show (hydroQ t.Ship p q t.Density).Meta = R (metaE t p q) from rfl, SubRat_eq (Qf.R zm) (Qf.R zo) (by omega) hN]
                rfl
            · rw [if_neg hz, if_neg hz]; rfl
        · rw [Bool.not_eq_true] at hp
          rw [hp]; rfl
    · rw [dF hb, if_neg hb, if_neg hb]; rfl
  refine ⟨fun h => by rw [main, if_neg h], fun h h0 => by rw [main, if_pos h, if_pos h0], fun h h0 => by rw [main, if_pos h, if_neg h0]⟩
theorem rexp_eq (hf : Fits t.Ship) (hd : 900 ≤ t.Density ∧ t.Density ≤ 1100) (hp : 1 ≤ t.Pendulum ∧ t.Pendulum ≤ 100000) (hz : ∀ j, j < t.Shifts.length → shOk t.Shifts[j]! = true) (hV : vQ t.Ship p q ≠ 0) :
    f_ref02_Experiment N t (hydroQ t.Ship p q t.Density) = some (if dnQ t.Shifts = 0 then (zeroS, false) else (expQ t p q, true)) := by
  obtain ⟨zm, zs, zg, zo, zu, zd, zp, zf⟩ := exp_sz hn h1 h2 hk hf hd hp hz
  have hfr := freeSz hf.lds
  have hdn := disp_ne (p := p) (q := q) hd hV
  have z1 : Sz 64 ((1000 : Int) : Rat) := Sz.i64 (by omega) (by omega)
  have z2 : Sz 64 (freeI t.Ship : Rat) := Sz.i64 (by omega) (by omega)
  have e2 : ((1000 : Int) : Rat) * (freeI t.Ship : Rat) = ((1000 * freeI t.Ship : Int) : Rat) := (Rat.intCast_mul _ _).symm
  unfold f_ref02_Experiment
  rw [W_R (by omega) (by omega) hN, bS, bS, rexp_loop hn hN hz, bS]
  dsimp only
  rw [rSignRat_eq (Qf.R zd) (by omega) hN, bS, cmp_eql, sgnQ_z]
  by_cases h0 : dnQ t.Shifts = 0
  · rw [dT h0, if_pos h0]; rfl
  · have hm0 : dispE t p q * dnQ t.Shifts ≠ 0 := fun e => (Rat.mul_eq_zero.1 e).elim hdn h0
    rw [dF h0, if_neg h0, cond_false, W_R (by omega) (by omega) hN, bS, rMulRat_eq (Qf.R zu) (Qf.R zp) (by omega) hN, bS, show (hydroQ t.Ship p q t.Density).Displacement = R (dispE t p q) from rfl, rMulRat_eq (Qf.R zs) (Qf.R zd) (by omega) hN, bS,
      rQuoRat_eq (Qf.R (zu.mul zp)) (Qf.R (zs.mul zd)) (by omega) hm0 hN, bS, show upQ t.Shifts * (t.Pendulum : Rat) / (dispE t p q * dnQ t.Shifts) = gmE t p q from rfl, W_R (by omega) (by omega) hN, bS, rLoads_eq hf.lds hN, bS, show (totQ t.Ship).Free = freeI t.Ship from rfl, W_R (by omega) (by omega) hN, bS,
      rMulRat_eq (Qf.R z1) (Qf.R z2) (by omega) hN, bS, e2, rQuoRat_eq (Qf.R zf) (Qf.R zs) (by omega) hdn hN, bS, rAddRat_eq (Qf.R zg) (Qf.R (zf.div zs)) (by omega) hN, bS, show gmE t p q + ((1000 * freeI t.Ship : Int) : Rat) / dispE t p q = solE t p q from rfl, show (hydroQ t.Ship p q t.Density).Meta = R (metaE t p q) from rfl, rSubRat_eq (Qf.R zm) (Qf.R zo) (by omega) hN]
    rfl
end
theorem law_HullExperiments (x0 : GIncline) (h0 : x0.ok) : f_law02_HullExperiments (2 ^ 70) x0 = some true := by
  have hN : 2 ^ 64 ≤ (2 ^ 70 : Nat) := by decide
  obtain ⟨_, ha, _⟩ := h0
  unfold f_law02_HullExperiments
  rw [awake_true, bS, Bool.not_true, cond_false]
  obtain ⟨b, hb, ht⟩ := small_eq (s := x0.Ship) hN
  obtain ⟨c, hc, hq⟩ := att_eq (N := 2 ^ 70) ha
  rw [hb, bS]
  cases b with
  | false => rfl
  | true =>
    rw [Bool.not_true, Bool.not_false, cond_true, hc, bS]
    cases c with
    | false => rfl
    | true =>
      have ht := ht rfl
      obtain ⟨q1, q2⟩ := hq rfl
      simp only [cmp_gtr, cmp_leq, cmp_lss, Bool.not_true, Bool.or_self, Bool.false_or]
      cases hg : ((decide ((6 : Int) < (x0.Shifts.length : Int)) && decide ((x0.Shifts.length : Int) ≤ 40)) || decide ((45 : Int) < (x0.Shifts.length : Int))) with
      | true => rfl
      | false =>
        simp only [Bool.or_eq_false_iff, decide_eq_false_iff_not] at hg
        have hn : x0.Shifts.length ≤ 45 := by omega
        obtain ⟨s1, s2, s3⟩ := exp_all hn hN q1 q2 (by omega) ht
        have same0 : ∀ z : Int, ((bif (cmpI .eql z z) then (f_law02_SameStable (2 ^ 70) zeroS zeroS) else some false).bind fun v18 => some ((cmpI .eql z z) && v18)) = some true := fun z => by
          rw [cmp_eql, dT rfl, cond_true, sameS_refl LenS.zero hN]; rfl
        -- the error of the reference, step by step
        have hy : bothE x0.Ship x0.Density = 0 → f_ref02_Hydrostatics (2 ^ 70) x0.Ship x0.Attitude x0.Density = some (if vQ x0.Ship (rv x0.Attitude.Sink) (rv x0.Attitude.Slope) = 0 then (zeroH, false) else (hydroQ x0.Ship (rv x0.Attitude.Sink) (rv x0.Attitude.Slope) x0.Density, true)) := fun hz => by
          obtain ⟨hs, hd⟩ := both_ok hz
          have hf := Fits.of ht hs
          have hd := dens_ok hd
          exact rHyd_eq hf q1 q2 (by omega) (K := 2 * 32 + 98) (by omega) (hf.y32 q1 q2) (by omega) (by omega) hN
        have o1 : ∃ w : GHydro, ((bif (cmpI .eql (bothE x0.Ship x0.Density) 0) then ((f_ref02_Hydrostatics (2 ^ 70) x0.Ship x0.Attitude x0.Density).bind fun v6 => bif (!v6.2) then (some (29, v6.1)) else (some (bothE x0.Ship x0.Density, v6.1))) else (some (bothE x0.Ship x0.Density, (⟨(⟨(⟨false, []⟩ : GInt), (⟨false, []⟩ : GInt)⟩ : GRat), (⟨(⟨false, []⟩ : GInt), (⟨false, []⟩ : GInt)⟩ : GRat), (⟨(⟨false, []⟩ : GInt), (⟨false, []⟩ : GInt)⟩ : GRat), (⟨(⟨false, []⟩ : GInt), (⟨false, []⟩ : GInt)⟩ : GRat), (⟨(⟨false, []⟩ : GInt), (⟨false, []⟩ : GInt)⟩ : GRat), (⟨(⟨false, []⟩ : GInt), (⟨false, []⟩ : GInt)⟩ : GRat), (⟨(⟨false, []⟩ : GInt), (⟨false, []⟩ : GInt)⟩ : GRat), (⟨(⟨false, []⟩ : GInt), (⟨false, []⟩ : GInt)⟩ : GRat), (⟨(⟨false, []⟩ : GInt), (⟨false, []⟩ : GInt)⟩ : GRat)⟩ : GHydro)))) : Option (Int × GHydro)) = some (if bothE x0.Ship x0.Density = 0 then (if vQ x0.Ship (rv x0.Attitude.Sink) (rv x0.Attitude.Slope) = 0 then 29 else 0) else bothE x0.Ship x0.Density, w) ∧
            (bothE x0.Ship x0.Density = 0 → vQ x0.Ship (rv x0.Attitude.Sink) (rv x0.Attitude.Slope) ≠ 0 → w = hydroQ x0.Ship (rv x0.Attitude.Sink) (rv x0.Attitude.Slope) x0.Density) := by
          by_cases hz : bothE x0.Ship x0.Density = 0
          · rw [cmp_eql, dT hz, if_pos hz, cond_true, hy hz, bS]
            by_cases hV : vQ x0.Ship (rv x0.Attitude.Sink) (rv x0.Attitude.Slope) = 0
            · rw [if_pos hV, if_pos hV]; exact ⟨zeroH, rfl, fun _ h => absurd hV h⟩
            · rw [if_neg hV, if_neg hV, hz]; exact ⟨_, rfl, fun _ _ => rfl⟩
          · rw [cmp_eql, dF hz, if_neg hz]; exact ⟨_, rfl, fun h => absurd h hz⟩
        obtain ⟨w, e1, hw⟩ := o1
        generalize hf1 : (if bothE x0.Ship x0.Density = 0 then (if vQ x0.Ship (rv x0.Attitude.Sink) (rv x0.Attitude.Slope) = 0 then (29 : Int) else 0) else bothE x0.Ship x0.Density) = f1 at e1
        have e2 : ((bif ((cmpI .eql f1 0) && (decide (x0.Pendulum < 1) || decide ((100000 : Int) < x0.Pendulum))) then (some 2) else (some f1)) : Option Int) = some (if f1 = 0 then (if inR 1 100000 x0.Pendulum = true then 0 else 2) else f1) := by
          rw [cmp_eql]
          by_cases h : f1 = 0
          · rw [dT h, if_pos h, Bool.true_and]
            by_cases hp : inR 1 100000 x0.Pendulum = true
            · rw [if_pos hp]
              rw [inR_iff] at hp
              rw [dF (by omega), dF (by omega), h]; rfl
            · rw [if_neg hp]
              have hp' : x0.Pendulum < 1 ∨ 100000 < x0.Pendulum := by rw [inR_iff] at hp; omega
              rcases hp' with h | h
              · rw [dT h]; rfl
              · rw [dT h, Bool.or_true]; rfl
          · rw [dF h, if_neg h]; rfl
        generalize hf2 : (if f1 = 0 then (if inR 1 100000 x0.Pendulum = true then (0 : Int) else 2) else f1) = f2 at e2
        have e3 : ((bif ((cmpI .eql f2 0) && decide ((40 : Int) < (x0.Shifts.length : Int))) then (some 8) else (some f2)) : Option Int) = some (if f2 = 0 then (if 40 < x0.Shifts.length then 8 else 0) else f2) := by
          rw [cmp_eql]
          by_cases h : f2 = 0
          · rw [dT h, if_pos h, Bool.true_and]
            by_cases hl : 40 < x0.Shifts.length
            · rw [dT (by omega), if_pos hl]; rfl
            · rw [dF (by omega), if_neg hl, h]; rfl
          · rw [dF h, if_neg h]; rfl
        generalize hf3 : (if f2 = 0 then (if 40 < x0.Shifts.length then (8 : Int) else 0) else f2) = f3 at e3
        have e4 : loopN (f_law02_HullExperiments_L1 (2 ^ 70) x0) (2 ^ 70) (f3, 0) = some (expE x0 (rv x0.Attitude.Sink) (rv x0.Attitude.Slope)) := by
          have : expE x0 (rv x0.Attitude.Sink) (rv x0.Attitude.Slope) = if f3 = 0 then firstErr (shE x0.Shifts) x0.Shifts.length 0 else f3 := by
            unfold expE
            rw [← hf3, ← hf2, ← hf1]
            by_cases a1 : bothE x0.Ship x0.Density = 0
            · rw [if_pos a1, if_pos a1]
              by_cases a2 : vQ x0.Ship (rv x0.Attitude.Sink) (rv x0.Attitude.Slope) = 0
              · rw [if_pos a2, if_pos a2]; rfl
              · rw [if_neg a2, if_neg a2, if_pos rfl]
                by_cases a3 : inR 1 100000 x0.Pendulum = true
                · rw [if_pos a3, if_pos a3, if_pos rfl]
                  by_cases a4 : 40 < x0.Shifts.length
                  · rw [if_pos a4, if_pos a4]; rfl
                  · rw [if_neg a4, if_neg a4]; rfl
                · rw [if_neg a3, if_neg a3]; rfl
            · rw [if_neg a1, if_neg a1, if_neg a1, if_neg a1, if_neg a1]
          rw [this]
          by_cases h : f3 = 0
          · rw [if_pos h, h]
            exact law_loop hn x0.Shifts.length 0 (by omega) (2 ^ 70) (by omega)
          · rw [if_neg h]
            exact law_stop (i := 0) h (by omega)
        by_cases hE : expE x0 (rv x0.Attitude.Sink) (rv x0.Attitude.Slope) = 0
        · have hb0 : bothE x0.Ship x0.Density = 0 := by
            unfold expE at hE
            split at hE
            · rename_i h; exact h
            · rename_i h; exact absurd hE h
          have hV : vQ x0.Ship (rv x0.Attitude.Sink) (rv x0.Attitude.Slope) ≠ 0 := fun h => by
            unfold expE at hE
            rw [if_pos hb0, if_pos h] at hE; cases hE
          have hp : inR 1 100000 x0.Pendulum = true := by
            unfold expE at hE
            rw [if_pos hb0, if_neg hV] at hE
            split at hE
            · rename_i h; exact h
            · cases hE
          have hz : firstErr (shE x0.Shifts) x0.Shifts.length 0 = 0 := by
            unfold expE at hE
            rw [if_pos hb0, if_neg hV, if_pos hp] at hE
            split at hE
            · cases hE
            · exact hE
          have hok : ∀ j, j < x0.Shifts.length → shOk x0.Shifts[j]! = true := sh_all fun j hj => firstErr_zero hz j (by omega) (by omega)
          obtain ⟨hs, hd⟩ := both_ok hb0
          have hf := Fits.of ht hs
          have hd := dens_ok hd
          rw [inR_iff] at hp
          have rx := rexp_eq hn hN q1 q2 (by omega) hf hd hp hok hV
          obtain ⟨zm, zs, zg, zo, zu, zd, zp, zf⟩ := exp_sz hn q1 q2 (by omega) hf hd hp hok
          by_cases h0 : dnQ x0.Shifts = 0
          · rw [s2 hE h0, cond_false, bS, both_eq ht hN, bS, e1, bS]
            dsimp only
            rw [e2, bS, e3, bS, e4, bS, hE, hw hb0 hV, rx, if_pos h0]
            exact same0 9
          · rw [s3 hE h0, cond_false, bS, both_eq ht hN, bS, e1, bS]
            dsimp only
            rw [e2, bS, e3, bS, e4, bS, hE, hw hb0 hV, rx, if_neg h0]
            have hl : LenS (expQ x0 (rv x0.Attitude.Sink) (rv x0.Attitude.Slope)) := ⟨Len.R zm (by omega), Len.R (zm.sub zo) (by omega), Len.R zg (by omega), Len.R zo (by omega)⟩
            show ((bif true then (f_law02_SameStable (2 ^ 70) (expQ x0 (rv x0.Attitude.Sink) (rv x0.Attitude.Slope)) (expQ x0 (rv x0.Attitude.Sink) (rv x0.Attitude.Slope))) else some false).bind fun v18 => some (true && v18)) = some true
            rw [cond_true, sameS_refl hl hN]; rfl
        · rw [s1 hE, cond_false, bS, both_eq ht hN, bS, e1, bS]
          dsimp only
          rw [e2, bS, e3, bS, e4, bS, cmp_neq, dF hE]
          exact same0 _
end Go.KB
