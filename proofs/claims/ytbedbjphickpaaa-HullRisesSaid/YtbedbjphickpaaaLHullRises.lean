/- The plain law of HullRises: it returns true for every ship, attitude and rise. No condition. -/
import Derived.Test.YtbedbjphickpaaaPRis
import Derived.Test.YtbedbjphickpaaaPZe
namespace Go.KB
set_option linter.unusedVariables false
set_option maxRecDepth 100000

section
variable {N K : Nat} {t : GStation} {y r : Rat} (h : Fit t) (hy : Sz K y) (hz : Sz K (y + r)) (hK : K ≤ 10000) (hN : 2 ^ 64 ≤ N)
include h hy hz hK hN
theorem cross_loop : ∃ o, loopN (f_law02_HullRises_L1 N t (R y) (R (y + r))) N 0 = some o ∧ (o = Sum.inr true ∨ (o = Sum.inl () ∧ ∀ j, j < t.Levels.length → ¬(y < lvQ t j ∧ lvQ t j < y + r))) := by
  have hn3 := h.n3
  have h1 := loop_err (f := f_law02_HullRises_L1 N t (R y) (R (y + r))) (e := fun k => if y < lvQ t k ∧ lvQ t k < y + r then 1 else 0) (n := t.Levels.length) (N := N) (fin := Sum.inl ()) (err := fun z => Sum.inr true) (fun i hi _ => by
    have hl := h.l0 i hi
    have z1 := h.lSz hi
    unfold f_law02_HullRises_L1
    simp only [cmp_lss]
    rw [dT (by omega), cond_true, idxB hi, bS, W_R (by omega) (by omega) hN, bS, CmpRat_eq (Qf.R hy) (Qf.R z1) (by omega) hN, bS, cmpQ_lt, w64s (by omega)]
    by_cases a : y < lvQ t i
    · rw [dT a, cond_true, bS, cond_true, W_R (by omega) (by omega) hN, bS, cond_true, CmpRat_eq (Qf.R z1) (Qf.R hz) (by omega) hN, bS, cmpQ_lt, Bool.true_and]
      by_cases b : lvQ t i < y + r
      · rw [dT b, if_pos (show y < lvQ t i ∧ lvQ t i < y + r from ⟨a, b⟩), if_neg (by omega)]; rfl
      · rw [dF b, if_neg (show ¬(y < lvQ t i ∧ lvQ t i < y + r) from fun h => b h.2), if_pos rfl]; rfl
    · rw [dF a, if_neg (show ¬(y < lvQ t i ∧ lvQ t i < y + r) from fun h => a h.1), if_pos rfl]; rfl) (fun _ => by
    unfold f_law02_HullRises_L1
    simp only [cmp_lss]
    rw [dF (by omega)]; rfl) (by omega)
  rw [h1]
  unfold errOr
  by_cases hz : firstErr (fun k => if y < lvQ t k ∧ lvQ t k < y + r then (1 : Int) else 0) t.Levels.length 0 = 0
  · rw [if_pos hz]
    refine ⟨_, rfl, .inr ⟨rfl, fun j hj hc => ?_⟩⟩
    have := firstErr_zero hz j (by omega) (by omega)
    simp only [if_pos hc] at this
    cases this
  · rw [if_neg hz]; exact ⟨_, rfl, .inl rfl⟩
end
theorem kgQ_mono {v v' : Rat} (h : v ≤ v') : kgQ v 1000 ≤ kgQ v' 1000 := by
  unfold kgQ
  have h1 : (0 : Rat) < ((1000000000 : Int) : Rat) := by decide
  have h2 : (0 : Rat) < ((1000 : Int) : Rat) := by decide
  have e : ∀ x : Rat, x * ((1000 : Int) : Rat) / ((1000000000 : Int) : Rat) = x * (((1000 : Int) : Rat) / ((1000000000 : Int) : Rat)) := fun x => by grind
  rw [e, e]
  have h3 : (0 : Rat) ≤ ((1000 : Int) : Rat) / ((1000000000 : Int) : Rat) := by decide +kernel
  exact Rat.mul_le_mul_of_nonneg_right h h3
theorem vQ_nonneg {s : GShip} {p q : Rat} (h : Fits s) : 0 ≤ vQ s p q := by
  refine sumQ_nonneg fun k hk => ?_
  have hf := h.fit k hk
  have h0 : (0 : Rat) ≤ wT s k := by have := hf.w0; unfold wT; exact_mod_cast (show (0 : Int) ≤ s.Stations[k]!.Width by omega)
  refine Rat.mul_nonneg h0 (sumQ_nonneg fun j hj => ?_)
  have hb := hf.hb j hj
  have h1 : (0 : Rat) ≤ ((2 * s.Stations[k]!.Halves[j]! : Int) : Rat) := by exact_mod_cast (show (0 : Int) ≤ 2 * s.Stations[k]!.Halves[j]! by omega)
  refine Rat.mul_nonneg h1 ?_
  have := hf.lt hj
  unfold partQ topQ
  grind
theorem law_HullRises (x0 : GShip) (x1 : GAttitude) (x2 : Int) (h0 : x0.ok) (h1 : x1.ok) (h2 : gI .u16 x2) : f_law02_HullRises (2 ^ 70) x0 x1 x2 = some true := by
  have hN : 2 ^ 64 ≤ (2 ^ 70 : Nat) := by decide
  unfold f_law02_HullRises
  rw [awake_true, bS, Bool.not_true, cond_false]
  obtain ⟨b, hb, ht⟩ := small_eq (s := x0) hN
  obtain ⟨c, hc, hq⟩ := att_eq (N := 2 ^ 70) h1
  rw [hb, bS]
  cases b with
  | false => rfl
  | true =>
    rw [Bool.not_true, Bool.not_false, cond_true, hc, bS]
    cases c with
    | false => rfl
    | true =>
      have ht := ht rfl
      obtain ⟨q1, q2⟩ := hq rfl
      rw [Bool.not_true, Bool.or_self, Bool.not_false, cond_true, hCheck_eq ht hN, bS, Bool.false_or, cmp_neq]
      by_cases hs : shpErr x0 = 0
      · have hf := Fits.of ht hs
        have hr := gI16 h2
        have hw : IntKind.i64.wrap x2 = x2 := w64 (by omega) (by omega)
        have zr : Sz 64 (x2 : Rat) := Sz.i64 (by omega) (by omega)
        have r0 : (0 : Rat) ≤ (x2 : Rat) := by exact_mod_cast hr.1
        generalize hp : rv x1.Sink = p at q1
        generalize hq' : rv x1.Slope = q at q2
        have u1 : Qf 120 (R (p + (x2 : Rat))) (p + (x2 : Rat)) := Qf.R ((q1.sz.add zr).mono (by omega))
        have a1 : Qf 120 x1.Sink p := q1.mono (by omega)
        have a2 : Qf 120 x1.Slope q := q2.mono (by omega)
        have hy := hf.y32 a1 a2
        have hy' := hf.y32 (a := ⟨R (p + (x2 : Rat)), x1.Slope⟩) u1 a2
        have hbt : bothE x0 1000 = 0 := by unfold bothE; rw [if_pos hs]; rfl
        rw [dT hs, Bool.not_true, cond_false, hw, W_R (by omega) (by omega) hN, bS, AddRat_eq q1 (Qf.R zr) (by omega) hN, bS, Hyd_eq ht a1 a2 (by omega) hN, bS, Hyd_eq ht (a := ⟨R (p + (x2 : Rat)), x1.Slope⟩) u1 a2 (by omega) hN, bS, if_pos hbt, if_pos hbt]
        have hm := vQ_mono (p := p) (q := q) hf r0
        have hv0 := vQ_nonneg (p := p) (q := q) hf
        by_cases hV : vQ x0 p q = 0
        · rw [if_pos hV]
          by_cases hV' : vQ x0 (p + (x2 : Rat)) q = 0
          · rw [if_pos hV']; rfl
          · rw [if_neg hV']; rfl
        · have hV' : vQ x0 (p + (x2 : Rat)) q ≠ 0 := by grind
          rw [if_neg hV, if_neg hV']
          have s1 : Sz 55000 (vQ x0 p q) := hf.szV (by omega) hy (Nat.le_refl _)
          have s1' : Sz 55000 (vQ x0 (p + (x2 : Rat)) q) := hf.szV (by omega) hy' (Nat.le_refl _)
          have s2 : Sz 55000 (xQ x0 p q) := hf.szX (by omega) hy (Nat.le_refl _)
          have s2' : Sz 55000 (xQ x0 (p + (x2 : Rat)) q) := hf.szX (by omega) hy' (Nat.le_refl _)
          have sA : Sz 1200 (wpQ x0 p q) := hf.szA (Nat.le_refl _)
          have sF : Sz 1600 (fQ x0 p q) := hf.szF (Nat.le_refl _)
          have sf : Sz 3000 (floQ x0 p q) := by
            unfold floQ
            split
            · exact Sz.zero.mono (by omega)
            · exact (sF.div sA).mono (by omega)
          have k1 : Sz 56000 (kgQ (vQ x0 p q) 1000) := ((s1.mul (Sz.i64 (z := 1000) (by omega) (by omega))).div (Sz.i64 (z := 1000000000) (by omega) (by omega))).mono (by omega)
          have k1' : Sz 56000 (kgQ (vQ x0 (p + (x2 : Rat)) q) 1000) := ((s1'.mul (Sz.i64 (z := 1000) (by omega) (by omega))).div (Sz.i64 (z := 1000000000) (by omega) (by omega))).mono (by omega)
          have hkg := kgQ_mono hm
          have nlt : ¬(kgQ (vQ x0 (p + (x2 : Rat)) q) 1000 < kgQ (vQ x0 p q) 1000) := by grind
          show ((bif (!(cmpI .neq (0 : Int) 0)) then (f_exact_CmpRat (2 ^ 70) (R (kgQ (vQ x0 (p + (x2 : Rat)) q) 1000)) (R (kgQ (vQ x0 p q) 1000))) else some 0).bind fun v9 => bif ((cmpI .neq (0 : Int) 0) || (cmpI .lss v9 0)) then (some false) else _) = some true
          rw [cmp_neq, dT rfl, Bool.not_true, Bool.not_false, cond_true, CmpRat_eq (Qf.R k1') (Qf.R k1) (by omega) hN, bS, cmp_lss, cmpQ_lt, dF nlt, Bool.or_self, cond_false]
          have main : loopN (f_law02_HullRises_L2 (2 ^ 70) x0 x1 (R (p + (x2 : Rat)))) (2 ^ 70) 0 = some (Sum.inr true) ∨ (loopN (f_law02_HullRises_L2 (2 ^ 70) x0 x1 (R (p + (x2 : Rat)))) (2 ^ 70) 0 = some (Sum.inl ()) ∧ ∀ k, k < x0.Stations.length → ∀ j, j < x0.Stations[k]!.Levels.length → ¬(yT x0 p q k < lvQ x0.Stations[k]! j ∧ lvQ x0.Stations[k]! j < yT x0 p q k + (x2 : Rat))) := by
            have h6 := hf.n6
            have hstep : ∀ i, i < x0.Stations.length → ∃ b : Bool, (f_law02_HullRises_L2 (2 ^ 70) x0 x1 (R (p + (x2 : Rat))) (i : Int) = if b = true then some (.inr (.inr true)) else some (.inl ((i + 1 : Nat) : Int))) ∧ (b = false → ∀ j, j < x0.Stations[i]!.Levels.length → ¬(yT x0 p q i < lvQ x0.Stations[i]! j ∧ lvQ x0.Stations[i]! j < yT x0 p q i + (x2 : Rat))) := fun i hi => by
              have hfi := hf.fit i hi
              have x0' := hfi.x0; have x1' := hfi.x1
              have ye : ySet (p + (x2 : Rat)) q x0.Stations[i]!.X = yT x0 p q i + (x2 : Rat) := (yT_rise (s := x0) (p := p) (q := q) (r := (x2 : Rat)) (i := i)).symm ▸ rfl
              have hz := hy' i hi
              rw [show yT x0 (p + (x2 : Rat)) q i = yT x0 p q i + (x2 : Rat) from yT_rise] at hz
              obtain ⟨o, ho, hc⟩ := cross_loop (N := 2 ^ 70) hfi (hy i hi) hz (by omega) hN
              have e : f_law02_HullRises_L2 (2 ^ 70) x0 x1 (R (p + (x2 : Rat))) (i : Int) = Sum.elim (fun l25 => some (.inl ((i + 1 : Nat) : Int))) (fun r26 => some (.inr (Sum.inr r26))) o := by
                unfold f_law02_HullRises_L2
                simp only [cmp_lss]
                rw [dT (by omega), cond_true, idxB hi, bS, Imm_eq a1 a2 (by omega) (by omega) (by omega) hN, bS, Imm_eq (a := ⟨R (p + (x2 : Rat)), x1.Slope⟩) u1 a2 (by omega) (by omega) (by omega) hN, bS, ye, show ySet p q x0.Stations[i]!.X = yT x0 p q i from rfl, ho, bS, w64s (by omega)]
              rcases hc with rfl | ⟨rfl, hc⟩
              · exact ⟨true, e, fun h => by cases h⟩
              · exact ⟨false, e, fun _ => hc⟩
            have hgo : ∀ (k i : Nat), i + k = x0.Stations.length → (∀ m, m < i → ∀ j, j < x0.Stations[m]!.Levels.length → ¬(yT x0 p q m < lvQ x0.Stations[m]! j ∧ lvQ x0.Stations[m]! j < yT x0 p q m + (x2 : Rat))) → ∀ M, k < M →
                loopN (f_law02_HullRises_L2 (2 ^ 70) x0 x1 (R (p + (x2 : Rat)))) M (i : Int) = some (Sum.inr true) ∨ (loopN (f_law02_HullRises_L2 (2 ^ 70) x0 x1 (R (p + (x2 : Rat)))) M (i : Int) = some (Sum.inl ()) ∧ ∀ k, k < x0.Stations.length → ∀ j, j < x0.Stations[k]!.Levels.length → ¬(yT x0 p q k < lvQ x0.Stations[k]! j ∧ lvQ x0.Stations[k]! j < yT x0 p q k + (x2 : Rat))) := by
              intro k
              induction k with
              | zero =>
                intro i hi hno M hM
                obtain ⟨M, rfl⟩ : ∃ m, M = m + 1 := ⟨M - 1, by omega⟩
                have : f_law02_HullRises_L2 (2 ^ 70) x0 x1 (R (p + (x2 : Rat))) (i : Int) = some (.inr (.inl ())) := by
                  unfold f_law02_HullRises_L2
                  simp only [cmp_lss]
                  rw [dF (by omega)]; rfl
                exact .inr ⟨by simp only [loopN, this], fun m hm => hno m (by omega)⟩
              | succ k ih =>
                intro i hi hno M hM
                obtain ⟨M, rfl⟩ : ∃ m, M = m + 1 := ⟨M - 1, by omega⟩
                obtain ⟨b, e, hb⟩ := hstep i (by omega)
                cases b with
                | true => left; simp only [loopN, e, if_pos]
                | false =>
                  simp only [Bool.false_eq_true, if_false] at e
                  simp only [loopN, e]
                  exact ih (i + 1) (by omega) (fun m hm => by
                    rcases Nat.lt_succ_iff_lt_or_eq.1 hm with h | rfl
                    · exact hno m h
                    · exact hb rfl) M (by omega)
            exact hgo x0.Stations.length 0 (by omega) (fun m hm => by omega) (2 ^ 70) (by omega)
          rcases main with e | ⟨e, hno⟩
          · rw [e]; rfl
          · obtain ⟨r1, r2⟩ := vQ_rise (p := p) (q := q) hf r0 hno
            rw [e, bS, Sum.elim_inl, bS]
            have c1 : vQ x0 (p + (x2 : Rat)) q * (xQ x0 (p + (x2 : Rat)) q / vQ x0 (p + (x2 : Rat)) q) = xQ x0 (p + (x2 : Rat)) q := by grind
            have c2 : vQ x0 p q * (xQ x0 p q / vQ x0 p q) = xQ x0 p q := by grind
            have c3 : vQ x0 (p + (x2 : Rat)) q - vQ x0 p q = wpQ x0 p q * (x2 : Rat) := by rw [r1]; grind
            have c4 : xQ x0 (p + (x2 : Rat)) q - xQ x0 p q = wpQ x0 p q * (x2 : Rat) * floQ x0 p q := by
              rw [r2]
              unfold floQ
              by_cases hA : wpQ x0 p q = 0
              · rw [if_pos hA, dry_fQ hf hA, hA]; grind
              · rw [if_neg hA]; grind
            show ((f_exact_MulRat (2 ^ 70) (R (wpQ x0 p q)) (R (x2 : Rat))).bind fun v34 => (f_exact_MulRat (2 ^ 70) (R (vQ x0 (p + (x2 : Rat)) q)) (R (xQ x0 (p + (x2 : Rat)) q / vQ x0 (p + (x2 : Rat)) q))).bind fun v35 => (f_exact_MulRat (2 ^ 70) (R (vQ x0 p q)) (R (xQ x0 p q / vQ x0 p q))).bind fun v36 => (f_exact_SubRat (2 ^ 70) v35 v36).bind fun v37 => (f_exact_SubRat (2 ^ 70) (R (vQ x0 (p + (x2 : Rat)) q)) (R (vQ x0 p q))).bind fun v38 => (f_base_SameRat (2 ^ 70) v38 v34).bind fun v39 => (bif v39 then (f_exact_MulRat (2 ^ 70) v34 (R (floQ x0 p q))) else some zeroR).bind fun v40 => (bif v39 then (f_base_SameRat (2 ^ 70) v37 v40) else some false).bind fun v41 => some (v39 && v41)) = some true
            rw [MulRat_eq (Qf.R sA) (Qf.R zr) (by omega) hN, bS, MulRat_eq (Qf.R s1') (Qf.R (s2'.div s1')) (by omega) hN, bS, MulRat_eq (Qf.R s1) (Qf.R (s2.div s1)) (by omega) hN, bS, c1, c2, SubRat_eq (Qf.R s2') (Qf.R s2) (by omega) hN, bS, SubRat_eq (Qf.R s1') (Qf.R s1) (by omega) hN, bS,
              SameRat_R (s1'.sub s1) (by omega) hN, bS, dT c3, cond_true, MulRat_eq (Qf.R (sA.mul zr)) (Qf.R sf) (by omega) hN, bS, cond_true, SameRat_R (s2'.sub s2) (by omega) hN, bS, dT c4]; rfl
      · rw [dF hs]; rfl
end Go.KB
