/- The plain law of TopInclining: it returns true for every ship, attitude and choice. No condition. -/
import Derived.Test.YtbedbjphickpaaaPZj
import Derived.Test.YtbedbjphickpaaaPZk
import Derived.Test.YtbedbjphickpaaaPZh
import Derived.KernelRfl
namespace Go.KB
set_option linter.unusedVariables false
set_option maxRecDepth 100000

/- integers that fit into a word -/
theorem Small_eq {N : Nat} {z : Int} (hz : nl z.natAbs ≤ 900000) (hN : 2 ^ 64 ≤ N) : ∃ n b, f_exact_Small N (I z) = some (n, b) ∧ (b = true → n = z) := by
  unfold f_exact_Small
  have hio : Io 900000 (I z) := Io.I hz
  rw [trim_val hio (by omega) hN, bS, ival_I]
  have hneg : (I z).Neg = decide (z < 0) := rfl
  by_cases h4 : (limbs z.natAbs).length ≤ 4
  · rw [word_eq (dig_limbs _) h4 (by omega), bS, val_limbs, Bool.not_true, cond_false, hneg, cmp_leq, cmp_leq]
    by_cases h0 : z < 0
    · rw [dT h0, Bool.true_and, Bool.not_true, Bool.false_and]
      by_cases h1 : ((z.natAbs : Nat) : Int) ≤ 9223372036854775808
      · rw [dT h1, cond_true]
        refine ⟨_, _, rfl, fun _ => ?_⟩
        rw [IntKind.wrap_u64, IntKind.wrap_i64]; omega
      · rw [dF h1]; exact ⟨_, _, rfl, fun h => by cases h⟩
    · rw [dF h0, Bool.false_and, cond_false, Bool.not_false, Bool.true_and]
      by_cases h1 : ((z.natAbs : Nat) : Int) ≤ 9223372036854775807
      · rw [dT h1, cond_true]
        refine ⟨_, _, rfl, fun _ => ?_⟩
        rw [w64 (by omega) (by omega)]; omega
      · rw [dF h1]; exact ⟨_, _, rfl, fun h => by cases h⟩
  · rw [word_none (by omega), bS]
    exact ⟨_, _, rfl, fun h => by cases h⟩
theorem small_num {N k : Nat} {q : Rat} (h : Sz k q) (hk : k ≤ 4000000) (hN : 2 ^ 64 ≤ N) : (∃ n b, f_exact_Small N (R q).Num = some (n, b) ∧ (b = true → n = q.num)) ∧ ∃ n b, f_exact_Small N (R q).Den = some (n, b) ∧ (b = true → n = (q.den : Int)) := by
  have h1 := (Qf.R h).ln
  have h2 := (Qf.R h).ld
  exact ⟨Small_eq (by have : nl q.num.natAbs ≤ k / 16 + 1 := h1; omega) hN, Small_eq (by have : nl (q.den : Int).natAbs ≤ k / 16 + 1 := h2; omega) hN⟩
theorem remK {a b : Int} (ha : 0 ≤ a) (hb : 0 < b) : remI a b = some (a % b) := by
  unfold remI
  rw [if_neg (by omega), Int.tmod_eq_emod_of_nonneg ha]
theorem quoK {a b : Int} (ha : 0 ≤ a) (ha2 : a ≤ 9223372036854775807) (hb : 0 < b) : quoI .i64 a b = some (a / b) := by
  unfold quoI
  rw [if_neg (by omega), Int.tdiv_eq_ediv_of_nonneg ha]
  have h1 := Int.ediv_le_self b ha
  have h2 := Int.ediv_nonneg ha (Int.le_of_lt hb)
  rw [w64 (by omega) (by omega)]
/- the distance of the shifts -/
theorem dist_step {N : Nat} {n D : Int} {v : Int × Bool} (hv : v.1 = n) (h0 : 0 ≤ n) (hD : 1 ≤ D) (hD2 : D ≤ 100000) : f_top_inclined_L2 N v D = some (if D < 100000 ∧ n % (10 * D) = 0 then .inl (D * 10) else .inr D) := by
  unfold f_top_inclined_L2
  rw [hv, cmp_lss, w64 (n := 10 * D) (by omega) (by omega), remK h0 (by omega)]
  by_cases h : D < 100000
  · rw [dT h, cond_true, bS, cmp_eql]
    by_cases h2 : n % (10 * D) = 0
    · rw [dT h2, if_pos ⟨h, h2⟩, w64 (by omega) (by omega)]; rfl
    · rw [dF h2, if_neg (fun x => h2 x.2)]; rfl
  · rw [dF h, if_neg (fun x => h x.1)]; rfl
def Dist (N : Nat) (v : Int × Bool) (n : Int) (M : Nat) (D : Int) : Prop := D ∣ n → ∃ E, loopN (f_top_inclined_L2 N v) M D = some E ∧ 1 ≤ E ∧ E ≤ 100000 ∧ E ∣ n
theorem dist_top {N M : Nat} {n : Int} {v : Int × Bool} (hv : v.1 = n) (h0 : 0 ≤ n) : Dist N v n (M + 1) 100000 := fun h => by
  refine ⟨100000, ?_, by omega, by omega, h⟩
  simp only [loopN, dist_step (N := N) hv h0 (D := 100000) (by omega) (by omega)]
  rw [if_neg (fun x => by have := x.1; omega)]
theorem dist_next {N M : Nat} {n D : Int} {v : Int × Bool} (hv : v.1 = n) (h0 : 0 ≤ n) (h1 : 1 ≤ D) (h2 : D ≤ 10000) (ih : Dist N v n M (D * 10)) : Dist N v n (M + 1) D := fun h => by
  by_cases h5 : D < 100000 ∧ n % (10 * D) = 0
  · obtain ⟨E, e1, e2⟩ := ih (by rw [Int.mul_comm]; exact Int.dvd_of_emod_eq_zero h5.2)
    refine ⟨E, ?_, e2⟩
    simp only [loopN, dist_step (N := N) hv h0 h1 (show D ≤ 100000 by omega)]
    rw [if_pos h5]; exact e1
  · refine ⟨D, ?_, h1, by omega, h⟩
    simp only [loopN, dist_step (N := N) hv h0 h1 (show D ≤ 100000 by omega)]
    rw [if_neg h5]
theorem dist_eq {N : Nat} {n : Int} {v : Int × Bool} (hv : v.1 = n) (h0 : 0 ≤ n) (hN : 2 ^ 64 ≤ N) : ∃ E, loopN (f_top_inclined_L2 N v) N 1 = some E ∧ 1 ≤ E ∧ E ≤ 100000 ∧ E ∣ n := by
  obtain ⟨M, rfl⟩ : ∃ M, N = M + 6 := ⟨N - 6, by omega⟩
  exact dist_next hv h0 (by omega) (by omega) (dist_next hv h0 (by omega) (by omega) (dist_next hv h0 (by omega) (by omega) (dist_next hv h0 (by omega) (by omega) (dist_next hv h0 (by omega) (by omega) (dist_top hv h0))))) (Int.one_dvd n)
/- the shifts -/
def shs (m D d : Int) : Nat → List GShift
  | 0 => []
  | k + 1 => shs m D d k ++ [⟨((k + 1 : Nat) : Int) * m, D, ((k + 1 : Nat) : Int) * d⟩, ⟨((k + 1 : Nat) : Int) * m, -D, -(((k + 1 : Nat) : Int) * d)⟩]
theorem shs_len {m D d : Int} : ∀ k, (shs m D d k).length = 2 * k
  | 0 => rfl
  | k + 1 => by rw [shs, List.length_append, shs_len k]; rfl
theorem upQ_two {l : List GShift} {a b : GShift} : upQ (l ++ [a, b]) = upQ l + (a.Mass : Rat) * (a.Distance : Rat) * (a.Deflection : Rat) + (b.Mass : Rat) * (b.Distance : Rat) * (b.Deflection : Rat) := by
  unfold upQ
  rw [show (l ++ [a, b]).length = l.length + 1 + 1 by simp, sumQ, sumQ]
  congr 1
  · congr 1
    · exact sumQ_congr fun k hk => by unfold shU; rw [bang (by simp; omega), bang hk, List.getElem_append_left hk]
    · unfold shU; rw [bang (by simp)]; simp
  · unfold shU; rw [bang (by simp)]; simp
theorem dnQ_two {l : List GShift} {a b : GShift} : dnQ (l ++ [a, b]) = dnQ l + ((a.Deflection * a.Deflection : Int) : Rat) + ((b.Deflection * b.Deflection : Int) : Rat) := by
  unfold dnQ
  rw [show (l ++ [a, b]).length = l.length + 1 + 1 by simp, sumQ, sumQ]
  congr 1
  · congr 1
    · exact sumQ_congr fun k hk => by unfold shV; rw [bang (by simp; omega), bang hk, List.getElem_append_left hk]
    · unfold shV; rw [bang (by simp)]; simp
  · unfold shV; rw [bang (by simp)]; simp
theorem shs_up {m D d : Int} : ∀ k, upQ (shs m D d k) * (d : Rat) = dnQ (shs m D d k) * ((m : Rat) * (D : Rat))
  | 0 => by
    have h1 : upQ (shs m D d 0) = 0 := rfl
    have h2 : dnQ (shs m D d 0) = 0 := rfl
    rw [h1, h2]; grind
  | k + 1 => by
    have ih := shs_up (m := m) (D := D) (d := d) k
    rw [shs, upQ_two, dnQ_two]
    simp only [Rat.intCast_mul, Rat.intCast_neg]
    grind
theorem sq_nonneg (a : Int) : 0 ≤ a * a := by
  rcases Int.le_total 0 a with h | h
  · exact Int.mul_nonneg h h
  · exact Int.mul_nonneg_of_nonpos_of_nonpos h h
theorem shs_dn {m D d : Int} (hd : 1 ≤ d) : ∀ k, 1 ≤ k → dnQ (shs m D d k) ≠ 0 := by
  have h0 : ∀ k, 0 ≤ dnQ (shs m D d k) := by
    intro k
    induction k with
    | zero => exact Rat.le_refl
    | succ k ih =>
      rw [shs, dnQ_two]
      have : (0 : Rat) ≤ ((((k + 1 : Nat) : Int) * d * (((k + 1 : Nat) : Int) * d) : Int) : Rat) := Rat.intCast_nonneg.2 (sq_nonneg _)
      have : (0 : Rat) ≤ ((-(((k + 1 : Nat) : Int) * d) * -(((k + 1 : Nat) : Int) * d) : Int) : Rat) := Rat.intCast_nonneg.2 (sq_nonneg _)
      grind
  intro k hk
  obtain ⟨k, rfl⟩ : ∃ j, k = j + 1 := ⟨k - 1, by omega⟩
  rw [shs, dnQ_two]
  have h1 := h0 k
  have hp : 0 < ((k + 1 : Nat) : Int) * d := Int.mul_pos (by omega) (by omega)
  have h2 : (0 : Rat) < ((((k + 1 : Nat) : Int) * d * (((k + 1 : Nat) : Int) * d) : Int) : Rat) := Rat.intCast_pos.2 (Int.mul_pos hp hp)
  have h3 : (0 : Rat) ≤ ((-(((k + 1 : Nat) : Int) * d) * -(((k + 1 : Nat) : Int) * d) : Int) : Rat) := Rat.intCast_nonneg.2 (sq_nonneg _)
  grind
theorem shs_ok {m D d : Int} (hm : 0 ≤ m) (hd : 0 ≤ d) (hD : 1 ≤ D) (hD2 : D ≤ 100000) : ∀ k : Nat, (k : Int) * m ≤ 100000000 → (k : Int) * d ≤ 100000 → ∀ x ∈ shs m D d k, shOk x = true := by
  intro k
  induction k with
  | zero => intro _ _ x hx; cases hx
  | succ k ih =>
    intro h1 h2 x hx
    have e1 : ((k + 1 : Nat) : Int) * m = (k : Int) * m + m := by rw [Int.natCast_add, Int.add_mul]; simp
    have e2 : ((k + 1 : Nat) : Int) * d = (k : Int) * d + d := by rw [Int.natCast_add, Int.add_mul]; simp
    have p1 : 0 ≤ (k : Int) * m := Int.mul_nonneg (by omega) hm
    have p2 : 0 ≤ (k : Int) * d := Int.mul_nonneg (by omega) hd
    rw [shs] at hx
    rcases List.mem_append.1 hx with hx | hx
    · exact ih (by omega) (by omega) x hx
    · unfold shOk
      simp only [List.mem_cons, List.not_mem_nil, or_false] at hx
      rcases hx with rfl | rfl
      · simp only [Bool.and_eq_true, inR_iff]; omega
      · simp only [Bool.and_eq_true, inR_iff]; omega
theorem Zu : Qf 32 zeroR 0 := ⟨fun d hd => (by cases hd), fun d hd => (by cases hd), by decide, by decide, by decide +kernel⟩
/- the experiment shows the height -/
theorem gm_alg {U V d mD disp M L n : Rat} (h1 : U * d = V * mD) (hV : V ≠ 0) (hd : d ≠ 0) (hdisp : disp = M) (hM : M ≠ 0) (hn : mD = n) (hL : L = n / d) : U * 1 / (disp * V) = L / M := by
  subst hdisp; subst hn; subst hL
  have : U = V * mD / d := by grind
  subst this
  grind
theorem shift_loop {N : Nat} {s : GShip} {a : GAttitude} {dn n m D d : Int} {v8 v9 : Int × Bool} {t : Nat} (h8 : v8.1 = n) (h9 : v9.1 = d) (hq : quoI .i64 n D = some m) (t3 : t ≤ 3) (hm : 0 ≤ m ∧ m ≤ 1000000000000) (hd : 0 ≤ d ∧ d ≤ 1000) (hD : 1 ≤ D ∧ D ≤ 100000) (hN : 2 ^ 64 ≤ N) :
    loopN (f_top_inclined_L1 N (t : Int) v8 v9 D) N ((⟨s, a, dn, 1, []⟩ : GIncline), 1) = some (⟨s, a, dn, 1, shs m D d t⟩ : GIncline) := by
  have := loop_errG (f := f_top_inclined_L1 N (t : Int) v8 v9 D) (e := fun _ => 0) (N := N) (n := t) (fin := (⟨s, a, dn, 1, shs m D d t⟩ : GIncline)) (err := fun _ => (⟨s, a, dn, 1, shs m D d t⟩ : GIncline)) (fun i => ((⟨s, a, dn, 1, shs m D d i⟩ : GIncline), ((i + 1 : Nat) : Int))) (fun i hi _ => by
    have b1 := mulB (a := ((i + 1 : Nat) : Int)) (b := m) (A := 4) (B := 1000000000000) (by omega) (by omega)
    have b2 := mulB (a := ((i + 1 : Nat) : Int)) (b := d) (A := 4) (B := 1000) (by omega) (by omega)
    have e3 : (0 - ((i + 1 : Nat) : Int)) * d = -(((i + 1 : Nat) : Int) * d) := by rw [Int.zero_sub, Int.neg_mul]
    have hl := shs_len (m := m) (D := D) (d := d) i
    unfold f_top_inclined_L1
    simp only [cmp_leq, h8, h9]
    rw [dT (by omega), cond_true, hq, bS, bS, w64 (n := ((i + 1 : Nat) : Int) * m) (by omega) (by omega), w64 (n := ((i + 1 : Nat) : Int) * d) (by omega) (by omega), w64 (n := 0 - D) (by omega) (by omega), w64 (n := 0 - ((i + 1 : Nat) : Int)) (by omega) (by omega), e3, w64 (n := -(((i + 1 : Nat) : Int) * d)) (by omega) (by omega),
      app_ok (by rw [hl]; simp; unfold lim; omega), bS, w64s (by omega), Int.zero_sub]
    rfl) (fun _ => by
    unfold f_top_inclined_L1
    simp only [cmp_leq]
    rw [dF (by omega)]; rfl) (by omega)
  rw [firstErr_nil] at this
  exact this
theorem kg_alg {M mt kg fr : Rat} (hM : M ≠ 0) : mt - ((M * mt - M * kg - fr) / M + fr / M) = kg := by grind
theorem lever0 {s : GShip} {p q : Rat} : leverQ s p q 0 = (massI s : Rat) * metaQ s p q - (massI s : Rat) * kgQ' s - ((1000 * freeI s : Int) : Rat) := by
  unfold leverQ leftQ; grind
theorem left0 {s : GShip} (h : ldsErr s = 0) : ¬limE s 0 := by
  have h1 := mass_pos h
  intro hl
  unfold limE leftQ at hl
  have : (0 : Rat) < (massI s : Rat) := Rat.intCast_pos.2 (by omega)
  grind
theorem both0 {s : GShip} {d : Int} (hs : shpErr s = 0) (hd : 900 ≤ d ∧ d ≤ 1100) : bothE s d = 0 := by
  unfold bothE densErr
  rw [if_pos hs, if_pos (inR_iff.2 hd)]
theorem inclined_eq {N : Nat} {s : GShip} {a : GAttitude} {d : Int} {t : Nat} {p q : Rat} (ht : Tame s) (hs : shpErr s = 0) (h1 : Qf 32 a.Sink p) (h2 : Qf 32 a.Slope q) (hd : 900 ≤ d ∧ d ≤ 1100) (t1 : 1 ≤ t) (t3 : t ≤ 3) (hN : 2 ^ 64 ≤ N) :
    ∃ b, f_top_inclined N s a d (t : Int) = some (true, b) := by
  have hb := both0 hs hd
  have hf := Fits.of ht hs
  have hl := hf.lds
  have hS := Stab_eq (w := (⟨d, (⟨(⟨false, []⟩ : GInt), (⟨false, []⟩ : GInt)⟩ : GRat)⟩ : GRaised)) ht h1 h2 (by omega) Zu hN
  have hH := Hyd_eq (d := d) ht h1 h2 (by omega) hN
  have hy := hf.y32 h1 h2
  unfold f_top_inclined
  rw [hH, if_pos hb]
  by_cases hV : vQ s p q = 0
  · rw [hS.2.1 hb hV, bS, if_pos hV, bS, Loads_eq ht hN, bS]
    exact ⟨_, rfl⟩
  · have hM := mass_ne hl
    have hmb := mass_bd hl (i := (ldsL s).length) (Nat.le_refl _)
    have hmb : 0 ≤ massI s ∧ massI s ≤ 61000000000 := hmb
    have hfr := freeSz hl
    obtain ⟨zD, _, _, _⟩ := hydro_sz (K := 2 * 32 + 98) (by omega) hy hf (d := d) (by omega) (by omega)
    have zu : Sz 49 (0 : Rat) := Zu.sz.mono (by omega)
    have zv := leverSz (K := 2 * 32 + 98) (u := 0) (by omega) hy hf zu
    have zg := zv.div (massSz hl)
    rw [hS.2.2.2 hb hV (left0 hl), bS, if_neg hV, bS, Loads_eq ht hN, bS, if_pos hs]
    dsimp only
    simp only [cmp_neq, decide_true, Bool.not_true, Bool.or_self, Bool.not_false, cond_true, Bool.false_or]
    rw [show (totQ s).Mass = massI s from rfl, W_R (by omega) (by omega) hN, bS, show (hydroQ s p q d).Displacement = R (kgQ (vQ s p q) d) from rfl, rCmpRat_eq (Qf.R zD) (Qf.R (massSz hl)) (by omega) hN, bS]
    by_cases hc : cmpQ (kgQ (vQ s p q) d) (massI s : Rat) = 0
    · have hdisp : kgQ (vQ s p q) d = (massI s : Rat) := by
        have g1 := cmpQ_le (kgQ (vQ s p q) d) (massI s : Rat)
        have g2 := cmpQ_ge (kgQ (vQ s p q) d) (massI s : Rat)
        rw [hc] at g1 g2
        simp only [Int.le_refl, decide_true] at g1 g2
        exact Rat.le_antisymm (of_decide_eq_true g1.symm) (of_decide_eq_true g2.symm)
      have eL : (massI s : Rat) * (leverQ s p q 0 / (massI s : Rat)) = leverQ s p q 0 := by grind
      rw [dT hc, Bool.not_true, cond_false, bS, show (stabQ s p q 0).GM = R (leverQ s p q 0 / (massI s : Rat)) from rfl, rMulRat_eq (Qf.R (massSz hl)) (Qf.R zg) (by omega) hN, bS, eL]
      obtain ⟨⟨n, b1, e1, k1⟩, ⟨dd, b2, e2, k2⟩⟩ := small_num (N := N) zv (by omega) hN
      rw [e1, bS, e2, bS]
      dsimp only
      cases b1 with
      | false => exact ⟨_, rfl⟩
      | true =>
        cases b2 with
        | false => exact ⟨_, rfl⟩
        | true =>
          have k1 := k1 rfl; have k2 := k2 rfl
          have hdpos : 1 ≤ dd := by have := (leverQ s p q 0).den_pos; omega
          simp only [cmp_leq, cmp_gtr, Bool.not_true, Bool.false_or]
          by_cases c1 : n ≤ 0
          · rw [dT c1]; exact ⟨_, rfl⟩
          · by_cases c2 : 1000000000000 < n
            · rw [dT c2, Bool.or_true]; exact ⟨_, rfl⟩
            · by_cases c3 : 1000 < dd
              · rw [dT c3, Bool.or_true]; exact ⟨_, rfl⟩
              · rw [dF c1, dF c2, dF c3, Bool.or_self, Bool.or_self, cond_false]
                obtain ⟨D, d1, d2, d3, d4⟩ := dist_eq (N := N) (v := (n, true)) (n := n) rfl (by omega) hN
                rw [d1, bS]
                have hq : quoI .i64 n D = some (n / D) := quoK (by omega) (by omega) (by omega)
                have m0 := Int.ediv_nonneg (show 0 ≤ n by omega) (show 0 ≤ D by omega)
                have m1 := Int.ediv_le_self D (show 0 ≤ n by omega)
                have hmD : n / D * D = n := Int.ediv_mul_cancel d4
                rw [hq, bS]
                generalize n / D = m at hq m0 m1 hmD
                have b1 := mulB (a := (t : Int)) (b := m) (A := 3) (B := 1000000000000) (by omega) (by omega)
                have b2 := mulB (a := (t : Int)) (b := dd) (A := 3) (B := 1000) (by omega) (by omega)
                rw [w64 (n := (t : Int) * m) (by omega) (by omega), w64 (n := (t : Int) * dd) (by omega) (by omega)]
                by_cases c4 : 100000000 < (t : Int) * m
                · rw [dT c4]; exact ⟨_, rfl⟩
                · by_cases c5 : 100000 < (t : Int) * dd
                  · rw [dT c5, Bool.or_true]; exact ⟨_, rfl⟩
                  · rw [dF c4, dF c5, Bool.or_self, cond_false, shift_loop (n := n) rfl rfl hq t3 ⟨m0, by omega⟩ ⟨by omega, by omega⟩ ⟨d2, d3⟩ hN, bS]
                    have hlen := shs_len (m := m) (D := D) (d := dd) t
                    have hok := shs_ok (m := m) (D := D) (d := dd) m0 (by omega) d2 d3 t (by omega) (by omega)
                    have hz : firstErr (shE (shs m D dd t)) (shs m D dd t).length 0 = 0 := by
                      rw [firstErr_congr (e' := fun _ => 0) (fun j _ hj _ => by
                        have hj' : j < (shs m D dd t).length := by omega
                        unfold shE
                        rw [if_pos (hok _ (by rw [bang hj']; exact List.getElem_mem hj'))]), firstErr_nil]
                    obtain ⟨_, _, x3⟩ := exp_all (t := ⟨s, a, d, 1, shs m D dd t⟩) (p := p) (q := q) (k := 32) (by dsimp only; omega) hN h1 h2 (by omega) ht
                    have hE : expE ⟨s, a, d, 1, shs m D dd t⟩ p q = 0 := by
                      unfold expE
                      dsimp only
                      rw [if_pos hb, if_neg hV, if_pos (inR_iff.2 ⟨by omega, by omega⟩), if_neg (by omega), hz]
                    have hdn := shs_dn (m := m) (D := D) (d := dd) hdpos t t1
                    rw [x3 hE hdn, bS]
                    have eg : gmE ⟨s, a, d, 1, shs m D dd t⟩ p q = leverQ s p q 0 / (massI s : Rat) := by
                      unfold gmE dispE
                      refine gm_alg (d := (dd : Rat)) (shs_up t) hdn (rat_ne (by omega)) hdisp hM (n := (n : Rat)) ?_ ?_
                      · rw [← Rat.intCast_mul, hmD]
                      · rw [k1, k2]; exact (rat_eq _)
                    have ek : metaE ⟨s, a, d, 1, shs m D dd t⟩ p q - solE ⟨s, a, d, 1, shs m D dd t⟩ p q = kgQ' s := by
                      unfold solE
                      rw [eg, lever0]
                      show metaQ s p q - (_ + ((1000 * freeI s : Int) : Rat) / kgQ (vQ s p q) d) = _
                      rw [hdisp]
                      exact kg_alg hM
                    have zk := kgSz hl
                    have zm := metaSz (K := 2 * 32 + 98) (by omega) hy hf
                    dsimp only
                    rw [cmp_eql, dT rfl, cond_true]
                    unfold expQ stabQ
                    dsimp only
                    rw [eg, ek, SameRat_R zg (by omega) hN, bS, dT rfl, Bool.and_self, cond_true, SameRat_R (show Sz 4064 (kgQ' s) from zk) (by omega) hN, bS, dT rfl, Bool.and_self, cond_true, show metaE ⟨s, a, d, 1, shs m D dd t⟩ p q = metaQ s p q from rfl, SameRat_R zm (by omega) hN, bS, dT rfl]
                    exact ⟨_, rfl⟩
    · rw [dF hc]; exact ⟨_, rfl⟩
/- an item that is moved up -/
section
variable {s : GShip} {i : Nat} {x z : Int} (hi : i < s.Items.length)
include hi
theorem lds_moved (k : Nat) : (ldsL (moved s i x z))[k]! = if k = i + 1 then there s.Items[i]! x z else (ldsL s)[k]! := by
  show ((s.Light :: s.Items).set (i + 1) (there s.Items[i]! x z))[k]! = if k = i + 1 then there s.Items[i]! x z else (s.Light :: s.Items)[k]!
  by_cases hk : k = i + 1
  · subst hk
    rw [if_pos rfl, bang (by simp; omega)]; simp
  · rw [if_neg hk]
    by_cases hk2 : k < (s.Light :: s.Items).length
    · rw [bang (by rw [List.length_set]; exact hk2), bang hk2, List.getElem_set_ne (by omega)]
    · have h1 : ((s.Light :: s.Items).set (i + 1) (there s.Items[i]! x z))[k]? = none := List.getElem?_eq_none (by rw [List.length_set]; omega)
      have h2 : (s.Light :: s.Items)[k]? = none := List.getElem?_eq_none (by omega)
      generalize (s.Light :: s.Items).set (i + 1) (there s.Items[i]! x z) = l1 at h1
      generalize s.Light :: s.Items = l2 at h2
      rw [List.getElem!_eq_getElem?_getD, List.getElem!_eq_getElem?_getD, h1, h2]
omit hi in
theorem lds_item : (ldsL s)[i + 1]! = s.Items[i]! := by
  unfold ldsL
  simp
omit hi in
theorem lds_mlen : (ldsL (moved s i x z)).length = (ldsL s).length := by
  show ((s.Light :: s.Items).set (i + 1) (there s.Items[i]! x z)).length = (s.Light :: s.Items).length
  rw [List.length_set]
theorem mass_moved : massI (moved s i x z) = massI s := by
  have h : ∀ n, sumI (ldM (moved s i x z)) n = sumI (ldM s) n := by
    intro n
    induction n with
    | zero => rfl
    | succ n ih =>
      rw [sumI, sumI, ih]
      congr 1
      unfold ldM
      rw [lds_moved hi]
      split
      · rename_i h; rw [h, lds_item]; rfl
      · rfl
  unfold massI
  rw [lds_mlen, h]
theorem free_moved : freeI (moved s i x z) = freeI s := by
  have h : ∀ n, sumI (ldF (moved s i x z)) n = sumI (ldF s) n := by
    intro n
    induction n with
    | zero => rfl
    | succ n ih =>
      rw [sumI, sumI, ih]
      congr 1
      unfold ldF
      rw [lds_moved hi]
      split
      · rename_i h; rw [h, lds_item]; rfl
      · rfl
  unfold freeI
  rw [lds_mlen, h]
theorem sz_moved : szQ (moved s i x z) = szQ s + ((s.Items[i]!.Mass * z : Int) : Rat) - ((s.Items[i]!.Mass * s.Items[i]!.Z : Int) : Rat) := by
  have hz : ∀ k, ldZ (moved s i x z) k = if k = i + 1 then ((s.Items[i]!.Mass * z : Int) : Rat) else ldZ s k := fun k => by
    unfold ldZ
    rw [lds_moved hi]
    split
    · rfl
    · rfl
  have h : ∀ n, sumQ (ldZ (moved s i x z)) n = if i + 1 < n then sumQ (ldZ s) n + ((s.Items[i]!.Mass * z : Int) : Rat) - ((s.Items[i]!.Mass * s.Items[i]!.Z : Int) : Rat) else sumQ (ldZ s) n := by
    intro n
    induction n with
    | zero => rfl
    | succ n ih =>
      rw [sumQ, sumQ, ih, hz]
      by_cases h1 : n = i + 1
      · subst h1
        have : ldZ s (i + 1) = ((s.Items[i]!.Mass * s.Items[i]!.Z : Int) : Rat) := by unfold ldZ; rw [lds_item]
        rw [if_neg (by omega), if_pos rfl, if_pos (by omega), this]; grind
      · rw [if_neg h1]
        by_cases h2 : i + 1 < n
        · rw [if_pos h2, if_pos (by omega)]; grind
        · rw [if_neg h2, if_neg (by omega)]
  unfold szQ
  rw [lds_mlen, h, if_pos (by show i + 1 < (s.Light :: s.Items).length; simp; omega)]
end
theorem top_awake : ((f_top_pontoon (2 ^ 70)).bind fun v1 => (f_base_W (2 ^ 70) 2000).bind fun v2 => (f_base_W (2 ^ 70) 0).bind fun v3 => f_top_inclined (2 ^ 70) v1 (⟨v2, v3⟩ : GAttitude) 1000 2) = some (true, true) := by kernel_rfl
theorem fnd_first {s : GShip} (h : 0 < s.Items.length) : fnd s.Items s.Items[0]!.Name = 0 := by
  unfold fnd
  have h1 : fndE s.Items s.Items[0]!.Name 0 = 1 := by unfold fndE; rw [if_pos rfl]; rfl
  obtain ⟨n, hn⟩ : ∃ n, s.Items.length = n + 1 := ⟨s.Items.length - 1, by omega⟩
  rw [hn, firstErr_s1 (by rw [h1]; decide), h1]; rfl
theorem rise_alg {A B C M : Rat} (hM : M ≠ 0) : (A + B - C) / M - A / M = (B - C) / M := by grind
theorem gm_rise {M mt A B C fr : Rat} (hM : M ≠ 0) : (M * mt - M * (A / M) - fr) / M - (M * mt - M * ((A + B - C) / M) - fr) / M = (B - C) / M := by grind
theorem law_TopInclining (x0 : GShip) (x1 : GAttitude) (x2 : List Int) (h0 : x0.ok) (h1 : x1.ok) (h2 : gA 3 (gI .u16) x2) : f_top_TopInclining (2 ^ 70) x0 x1 x2 = some true := by
  have hN : 2 ^ 64 ≤ (2 ^ 70 : Nat) := by decide
  obtain ⟨a1, a2, _⟩ := h1
  obtain ⟨hl3, hx⟩ := h2
  match x2, hl3, hx with
  | [k0, k1, k2], _, hx =>
  have r0 := gI16 (hx k0 (by simp)); have r1 := gI16 (hx k1 (by simp)); have r2 := gI16 (hx k2 (by simp))
  unfold f_top_TopInclining
  obtain ⟨v1, e1, hA⟩ := bindE top_awake
  obtain ⟨v2, e2, hA⟩ := bindE hA
  obtain ⟨v3, e3, hA⟩ := bindE hA
  rw [e1, bS, e2, bS, e3, bS, hA, bS]
  dsimp only
  rw [Bool.not_true, Bool.or_self, cond_false, show idx [k0, k1, k2] 0 = some k0 from rfl, bS, w64 (n := k0) (by omega) (by omega), remK r0.1 (by omega), bS, show idx [k0, k1, k2] 1 = some k1 from rfl, bS, w64 (n := k1) (by omega) (by omega), remK r1.1 (by omega), bS]
  obtain ⟨b, hb, ht⟩ := small_eq (s := x0) hN
  obtain ⟨c1, hc1, q1⟩ := bsShort_eq (N := 2 ^ 70) a1
  obtain ⟨c2, hc2, q2⟩ := bsShort_eq (N := 2 ^ 70) a2
  rw [hb, bS]
  cases b with
  | false => rfl
  | true =>
    have ht := ht rfl
    rw [Bool.not_true, Bool.not_false, cond_true, hc1, bS]
    cases c1 with
    | false => rfl
    | true =>
      rw [Bool.not_true, Bool.or_self, Bool.not_false, cond_true, hc2, bS]
      cases c2 with
      | false => rfl
      | true =>
        have q1 := q1 rfl; have q2 := q2 rfl
        rw [Bool.not_true, Bool.or_self, Bool.not_false, cond_true, hCheck_eq ht hN, bS, cmp_neq, Bool.false_or]
        by_cases hs : shpErr x0 = 0
        · have hf := Fits.of ht hs
          have hl := hf.lds
          have g1 := Int.emod_nonneg k1 (show (201 : Int) ≠ 0 by omega)
          have g2 := Int.emod_lt_of_pos k1 (show (0 : Int) < 201 by omega)
          have g3 := Int.emod_nonneg k0 (show (3 : Int) ≠ 0 by omega)
          have g4 := Int.emod_lt_of_pos k0 (show (0 : Int) < 3 by omega)
          rw [dT hs, Bool.not_true, cond_false, w64 (n := 900 + k1 % 201) (by omega) (by omega), w64 (n := 1 + k0 % 3) (by omega) (by omega)]
          generalize hd : 900 + k1 % 201 = d
          obtain ⟨t, htt⟩ : ∃ t : Nat, 1 + k0 % 3 = (t : Int) := ⟨(1 + k0 % 3).toNat, by omega⟩
          rw [htt]
          have hd2 : 900 ≤ d ∧ d ≤ 1100 := by omega
          obtain ⟨bb, hI⟩ := inclined_eq (d := d) (t := t) ht hs q1 q2 hd2 (by omega) (by omega) hN
          rw [hI, bS]
          dsimp only
          rw [Bool.not_true, cond_false, cmp_eql]
          by_cases h00 : x0.Items.length = 0
          · rw [dT (by omega)]; rfl
          · have hi : 0 < x0.Items.length := by omega
            have u1 := Int.emod_nonneg k2 (show (1000 : Int) ≠ 0 by omega)
            have u2 := Int.emod_lt_of_pos k2 (show (0 : Int) < 1000 by omega)
            have hk := (lds_ok hl).2.2 1 (by simp [ldsL]; omega)
            rw [show (ldsL x0)[1]! = x0.Items[0]! from lds_item (i := 0)] at hk
            have q4 := hk.z0; have q5 := hk.z1; have q6 := hk.m0; have q7 := hk.m1
            rw [dF (by omega), cond_false, show idx [k0, k1, k2] 2 = some k2 from rfl, bS, w64 (n := k2) (by omega) (by omega), remK r2.1 (by omega), bS, show idx x0.Items 0 = some x0.Items[0]! from idxB (i := 0) hi, bS]
            generalize k2 % 1000 = up at u1 u2
            rw [w64 (n := x0.Items[0]!.Z + up) (by omega) (by omega), Move_eq ht hN, bS, if_pos hs, fnd_first hi, if_neg (by omega), show (0 : Int).toNat = 0 from rfl]
            have hm := moved_err (x := x0.Items[0]!.X) (z := x0.Items[0]!.Z + up) hs hi
            by_cases h9 : numErr (there x0.Items[0]! x0.Items[0]!.X (x0.Items[0]!.Z + up)) 0 = 0
            · rw [h9] at hm
              rw [if_pos h9]
              dsimp only
              have eM : massI (moved x0 0 x0.Items[0]!.X (x0.Items[0]!.Z + up)) = massI x0 := mass_moved hi
              have eF : freeI (moved x0 0 x0.Items[0]!.X (x0.Items[0]!.Z + up)) = freeI x0 := free_moved hi
              have eZ := sz_moved (x := x0.Items[0]!.X) (z := x0.Items[0]!.Z + up) hi
              have htm : Tame (moved x0 0 x0.Items[0]!.X (x0.Items[0]!.Z + up)) := ht.items (by rw [List.length_set]; exact ht.it)
              generalize hmv : moved x0 0 x0.Items[0]!.X (x0.Items[0]!.Z + up) = y at eM eF eZ htm hm
              have hfy := Fits.of htm hm
              have ly := hfy.lds
              have hVy : ∀ p q, vQ y p q = vQ x0 p q := fun p q => by rw [← hmv]; rfl
              have hMy : ∀ p q, metaQ y p q = metaQ x0 p q := fun p q => by rw [← hmv]; rfl
              have hbx := both0 hs hd2
              have hby := both0 hm hd2
              have S1 := Stab_eq (w := (⟨d, (⟨(⟨false, []⟩ : GInt), (⟨false, []⟩ : GInt)⟩ : GRat)⟩ : GRaised)) ht q1 q2 (by omega) Zu hN
              have S2 := Stab_eq (w := (⟨d, (⟨(⟨false, []⟩ : GInt), (⟨false, []⟩ : GInt)⟩ : GRat)⟩ : GRaised)) htm q1 q2 (by omega) Zu hN
              rw [cmp_neq, dT rfl, Bool.not_true, cond_false]
              by_cases hV : vQ x0 (rv x1.Sink) (rv x1.Slope) = 0
              · rw [S1.2.1 hbx hV, bS, S2.2.1 hby ((hVy _ _).trans hV), bS, Loads_eq ht hN, bS]
                rfl
              · have hV2 : vQ y (rv x1.Sink) (rv x1.Slope) ≠ 0 := by rw [hVy]; exact hV
                have hM := mass_ne hl
                have hmb := mass_bd hl (i := (ldsL x0).length) (Nat.le_refl _)
                have hmb : 0 ≤ massI x0 ∧ massI x0 ≤ 61000000000 := hmb
                have bu := mulB (a := x0.Items[0]!.Mass) (b := up) (A := 1000000000) (B := 1000) (by omega) (by omega)
                have zu : Sz 49 (0 : Rat) := Zu.sz.mono (by omega)
                have zv := (leverSz (K := 2 * 32 + 98) (u := 0) (by omega) (hf.y32 q1 q2) hf zu).div (massSz hl)
                have zv2 := (leverSz (K := 2 * 32 + 98) (u := 0) (by omega) (hfy.y32 q1 q2) hfy zu).div (massSz ly)
                have zk : Sz 4064 (kgQ' x0) := kgSz hl
                have zk2 : Sz 4064 (kgQ' y) := kgSz ly
                have zb : Sz 64 ((x0.Items[0]!.Mass * up : Int) : Rat) := Sz.i64 (by omega) (by omega)
                have ed : ((x0.Items[0]!.Mass * (x0.Items[0]!.Z + up) : Int) : Rat) - ((x0.Items[0]!.Mass * x0.Items[0]!.Z : Int) : Rat) = ((x0.Items[0]!.Mass * up : Int) : Rat) := by
                  simp only [Rat.intCast_mul, Rat.intCast_add]; grind
                have f1 : kgQ' y - kgQ' x0 = ((x0.Items[0]!.Mass * up : Int) : Rat) / (massI x0 : Rat) := by
                  unfold kgQ'
                  rw [eM, eZ, rise_alg hM, ed]
                have f2 : leverQ x0 (rv x1.Sink) (rv x1.Slope) 0 / (massI x0 : Rat) - leverQ y (rv x1.Sink) (rv x1.Slope) 0 / (massI y : Rat) = ((x0.Items[0]!.Mass * up : Int) : Rat) / (massI x0 : Rat) := by
                  rw [lever0, lever0, hMy]
                  unfold kgQ'
                  rw [eM, eF, eZ, gm_rise hM, ed]
                rw [S1.2.2.2 hbx hV (left0 hl), bS, S2.2.2.2 hby hV2 (left0 ly), bS, Loads_eq ht hN, bS, if_pos hs]
                dsimp only
                rw [cmp_neq, dT rfl, Bool.not_true, Bool.or_self, Bool.or_self, cond_false, w64 (n := x0.Items[0]!.Mass * up) (by omega) (by omega), W_R (by omega) (by omega) hN, bS, show (totQ x0).Mass = massI x0 from rfl, W_R (by omega) (by omega) hN, bS, rQuoRat_eq (Qf.R zb) (Qf.R (massSz hl)) (by omega) hM hN, bS]
                unfold stabQ
                dsimp only
                rw [rSubRat_eq (Qf.R zk2) (Qf.R zk) (by omega) hN, bS, f1, SameRat_R (zb.div (massSz hl)) (by omega) hN, bS, dT rfl, cond_true, rSubRat_eq (Qf.R zv) (Qf.R zv2) (by omega) hN, bS, f2, cond_true, SameRat_R (zb.div (massSz hl)) (by omega) hN, bS, dT rfl]
                rfl
            · have h10 : numErr (there x0.Items[0]! x0.Items[0]!.X (x0.Items[0]!.Z + up)) 0 = 2 := by
                unfold numErr at h9 ⊢
                split
                · rename_i hh; exact absurd (if_pos hh) h9
                · rfl
              rw [if_neg h9, h10]; rfl
        · rw [dF hs]; rfl
end Go.KB
