/- The plain law of HullSurveys: it returns true for all draught marks. No condition. -/
import Derived.Test.YtbedbjphickpaaaGreatPZf
namespace Go.KB
set_option linter.unusedVariables false
set_option maxRecDepth 100000

def zeroA : GAttitude := ⟨zeroR, zeroR⟩
abbrev rg6 (n : Int) : Bool := inR (-1000000) 1000000 n
def ok3 (a b c : Int) : Bool := rg6 a && rg6 b && rg6 c
theorem far_eq {N : Nat} {n : Int} : f_law02_far N n = some (!rg6 n) := by
  unfold f_law02_far
  simp only [cmp_lss, cmp_gtr]
  congr 1
  by_cases h : rg6 n = true
  · rw [h]
    rw [inR_iff] at h
    rw [dF (by omega), dF (by omega)]; rfl
  · have h' := h
    rw [inR_iff] at h
    rw [Bool.not_eq_true] at h'
    rw [h']
    by_cases h2 : n < -1000000
    · rw [dT h2]; rfl
    · rw [dT (show 1000000 < n by omega), Bool.or_true]; rfl
section
variable {N : Nat} (hN : 2 ^ 64 ≤ N)
include hN
theorem sv_l1 {a b c : Int} {A : GAttitude} {Z : GRat} : loopN (f_hull_Survey_L1 N [a, b, c]) N (A, Z, 0) = some (bif ok3 a b c then Sum.inl (A, Z) else Sum.inr (zeroA, zeroR, 2)) := by
  have e0 : f_hull_Survey_L1 N [a, b, c] (A, Z, 0) = bif !rg6 a then some (.inr (.inr (zeroA, zeroR, 2))) else some (.inl (A, Z, 1)) := rfl
  have e1 : f_hull_Survey_L1 N [a, b, c] (A, Z, 1) = bif !rg6 b then some (.inr (.inr (zeroA, zeroR, 2))) else some (.inl (A, Z, 2)) := rfl
  have e2 : f_hull_Survey_L1 N [a, b, c] (A, Z, 2) = bif !rg6 c then some (.inr (.inr (zeroA, zeroR, 2))) else some (.inl (A, Z, 3)) := rfl
  have e3 : f_hull_Survey_L1 N [a, b, c] (A, Z, 3) = some (.inr (.inl (A, Z))) := rfl
  obtain ⟨M, hM⟩ : ∃ M, N = M + 4 := ⟨N - 4, by omega⟩
  rw [show loopN (f_hull_Survey_L1 N [a, b, c]) N (A, Z, 0) = loopN (f_hull_Survey_L1 N [a, b, c]) (M + 4) (A, Z, 0) by rw [← hM]]
  unfold ok3
  simp only [loopN, e0]
  cases rg6 a
  · rfl
  · simp only [Bool.not_true, cond_false, e1]
    cases rg6 b
    · rfl
    · simp only [Bool.not_true, cond_false, e2]
      cases rg6 c
      · rfl
      · simp only [Bool.not_true, cond_false, e3]; rfl
variable (a0 a1 a2 b0 b1 b2 c0 c1 c2 : Int)
abbrev mk3 : GMarks := ⟨[a0, a1, a2], [b0, b1, b2], [c0, c1, c2]⟩
theorem sv_l3 : loopN (f_hull_Survey_L3 N (mk3 a0 a1 a2 b0 b1 b2 c0 c1 c2)) N (zeroA, zeroR, 0) = some (bif ok3 a0 a1 a2 && ok3 b0 b1 b2 && ok3 c0 c1 c2 then Sum.inl (zeroA, zeroR) else Sum.inr (zeroA, zeroR, 2)) := by
  have e : ∀ (k k' : Int) (x y z : Int), idx [[a0, a1, a2], [b0, b1, b2], [c0, c1, c2]] k = some [x, y, z] → cmpI .lss k 3 = true → IntKind.i64.wrap (k + 1) = k' → f_hull_Survey_L3 N (mk3 a0 a1 a2 b0 b1 b2 c0 c1 c2) (zeroA, zeroR, k) = bif ok3 x y z then some (.inl (zeroA, zeroR, k')) else some (.inr (.inr (zeroA, zeroR, 2))) := by
    intro k k' x y z h1 h2 h3
    unfold f_hull_Survey_L3
    show (bif cmpI .lss k 3 then (idx [[a0, a1, a2], [b0, b1, b2], [c0, c1, c2]] k).bind fun v2 => (loopN (f_hull_Survey_L1 N v2) N (zeroA, zeroR, 0)).bind fun o8 => Sum.elim (fun l10 => (some (.inl (l10.1, l10.2, (IntKind.i64.wrap (k + 1)))) : Option ((GAttitude × GRat × Int) ⊕ ((GAttitude × GRat) ⊕ (GAttitude × GRat × Int))))) (fun r11 => some (.inr (Sum.inr (r11.1, r11.2.1, r11.2.2)))) o8 else _) = _
    rw [h2, cond_true, h1, bS, sv_l1 hN, bS, h3]
    cases ok3 x y z <;> rfl
  have e0 := e 0 1 a0 a1 a2 rfl rfl rfl
  have e1 := e 1 2 b0 b1 b2 rfl rfl rfl
  have e2 := e 2 3 c0 c1 c2 rfl rfl rfl
  have e3 : f_hull_Survey_L3 N (mk3 a0 a1 a2 b0 b1 b2 c0 c1 c2) (zeroA, zeroR, 3) = some (.inr (.inl (zeroA, zeroR))) := rfl
  obtain ⟨M, hM⟩ : ∃ M, N = M + 4 := ⟨N - 4, by omega⟩
  rw [show loopN (f_hull_Survey_L3 N (mk3 a0 a1 a2 b0 b1 b2 c0 c1 c2)) N (zeroA, zeroR, 0) = loopN (f_hull_Survey_L3 N (mk3 a0 a1 a2 b0 b1 b2 c0 c1 c2)) (M + 4) (zeroA, zeroR, 0) by rw [← hM]]
  simp only [loopN, e0]
  cases ok3 a0 a1 a2
  · rfl
  · simp only [cond_true, e1]
    cases ok3 b0 b1 b2
    · rfl
    · simp only [cond_true, e2]
      cases ok3 c0 c1 c2
      · rfl
      · simp only [cond_true, e3]; rfl
end
section
variable (a0 a1 a2 b0 b1 b2 c0 c1 c2 : Int)
def mnQ (b c : Int) : Rat := ((b + c : Int) : Rat) / ((2 : Int) : Rat)
def slQ : Rat := (mnQ b2 c2 - mnQ b0 c0) / ((a2 - a0 : Int) : Rat)
def skQ : Rat := mnQ b0 c0 - slQ a0 a2 b0 b2 c0 c2 * (a0 : Rat)
def bdQ : Rat := mnQ b1 c1 - (skQ a0 a2 b0 b2 c0 c2 + slQ a0 a2 b0 b2 c0 c2 * (a1 : Rat))
def s4Q : Rat := skQ a0 a2 b0 b2 c0 c2 + bdQ a0 a1 a2 b0 b1 b2 c0 c1 c2 * ((3 : Int) : Rat) / ((4 : Int) : Rat)
end
theorem mnSz {b c : Int} (hb : -1000000 ≤ b ∧ b ≤ 1000000) (hc : -1000000 ≤ c ∧ c ≤ 1000000) : Sz 128 (mnQ b c) := (Sz.i64 (z := b + c) (by omega) (by omega)).div (Sz.i64 (z := 2) (by omega) (by omega))
section
variable {N : Nat} (hN : 2 ^ 64 ≤ N) {a0 a1 a2 b0 b1 b2 c0 c1 c2 : Int} (ha : ok3 a0 a1 a2 = true) (hb : ok3 b0 b1 b2 = true) (hc : ok3 c0 c1 c2 = true)
theorem ok3_spec {a b c : Int} (h : ok3 a b c = true) : (-1000000 ≤ a ∧ a ≤ 1000000) ∧ (-1000000 ≤ b ∧ b ≤ 1000000) ∧ (-1000000 ≤ c ∧ c ≤ 1000000) := by
  unfold ok3 at h
  simp only [Bool.and_eq_true, inR_iff] at h
  exact ⟨h.1.1, h.1.2, h.2⟩
include hN
theorem mean_step {l : List GRat} {k : Nat} {b c : Int} (h1 : idx [b0, b1, b2] (k : Int) = some b) (h2 : idx [c0, c1, c2] (k : Int) = some c) (hk : k < 3) (hl : k < l.length) (hb' : -1000000 ≤ b ∧ b ≤ 1000000) (hc' : -1000000 ≤ c ∧ c ≤ 1000000) :
    f_hull_Survey_L2 N (mk3 a0 a1 a2 b0 b1 b2 c0 c1 c2) (l, (k : Int)) = some (.inl (l.set k (R (mnQ b c)), ((k + 1 : Nat) : Int))) ∧ f_ref02_Survey_L1 N (mk3 a0 a1 a2 b0 b1 b2 c0 c1 c2) (l, (k : Int)) = some (.inl (l.set k (R (mnQ b c)), ((k + 1 : Nat) : Int))) := by
  have z1 : Sz 64 ((b + c : Int) : Rat) := Sz.i64 (by omega) (by omega)
  have z2 : Sz 64 ((2 : Int) : Rat) := Sz.i64 (by omega) (by omega)
  constructor
  · unfold f_hull_Survey_L2
    simp only [cmp_lss]
    rw [dT (by omega), cond_true, h1, bS, h2, bS, w64 (n := b + c) (by omega) (by omega), whole_eq (by omega) (by omega) hN, bS, whole_eq (by omega) (by omega) hN, bS, over_eq (Qf.R z1) (Qf.R z2) (by omega) (by exact rat_ne (by omega)) hN, bS, idx_nat hl, bS, w64s (by omega)]
    rfl
  · unfold f_ref02_Survey_L1
    simp only [cmp_lss]
    rw [dT (by omega), cond_true, h1, bS, h2, bS, w64 (n := b + c) (by omega) (by omega), Q_R (by omega) (by omega) (by omega) (by omega) (by omega) hN, bS, idx_nat hl, bS, w64s (by omega)]
    rfl
include hb hc
theorem means : loopN (f_hull_Survey_L2 N (mk3 a0 a1 a2 b0 b1 b2 c0 c1 c2)) N ([zeroR, zeroR, zeroR], 0) = some [R (mnQ b0 c0), R (mnQ b1 c1), R (mnQ b2 c2)] ∧ loopN (f_ref02_Survey_L1 N (mk3 a0 a1 a2 b0 b1 b2 c0 c1 c2)) N ([zeroR, zeroR, zeroR], 0) = some [R (mnQ b0 c0), R (mnQ b1 c1), R (mnQ b2 c2)] := by
  obtain ⟨p0, p1, p2⟩ := ok3_spec hb
  obtain ⟨r0, r1, r2⟩ := ok3_spec hc
  have s0 := mean_step (a0 := a0) (a1 := a1) (a2 := a2) (b0 := b0) (b1 := b1) (b2 := b2) (c0 := c0) (c1 := c1) (c2 := c2) (l := [zeroR, zeroR, zeroR]) (k := 0) hN (b := b0) (c := c0) rfl rfl (by omega) (by simp) p0 r0
  have s1 := mean_step (a0 := a0) (a1 := a1) (a2 := a2) (b0 := b0) (b1 := b1) (b2 := b2) (c0 := c0) (c1 := c1) (c2 := c2) (l := [R (mnQ b0 c0), zeroR, zeroR]) (k := 1) hN (b := b1) (c := c1) rfl rfl (by omega) (by simp) p1 r1
  have s2 := mean_step (a0 := a0) (a1 := a1) (a2 := a2) (b0 := b0) (b1 := b1) (b2 := b2) (c0 := c0) (c1 := c1) (c2 := c2) (l := [R (mnQ b0 c0), R (mnQ b1 c1), zeroR]) (k := 2) hN (b := b2) (c := c2) rfl rfl (by omega) (by simp) p2 r2
  have e3 : f_hull_Survey_L2 N (mk3 a0 a1 a2 b0 b1 b2 c0 c1 c2) ([R (mnQ b0 c0), R (mnQ b1 c1), R (mnQ b2 c2)], ((3 : Nat) : Int)) = some (.inr [R (mnQ b0 c0), R (mnQ b1 c1), R (mnQ b2 c2)]) := rfl
  have e3' : f_ref02_Survey_L1 N (mk3 a0 a1 a2 b0 b1 b2 c0 c1 c2) ([R (mnQ b0 c0), R (mnQ b1 c1), R (mnQ b2 c2)], ((3 : Nat) : Int)) = some (.inr [R (mnQ b0 c0), R (mnQ b1 c1), R (mnQ b2 c2)]) := rfl
  obtain ⟨M, hM⟩ : ∃ M, N = M + 4 := ⟨N - 4, by omega⟩
  constructor
  · rw [show loopN (f_hull_Survey_L2 N (mk3 a0 a1 a2 b0 b1 b2 c0 c1 c2)) N ([zeroR, zeroR, zeroR], 0) = loopN (f_hull_Survey_L2 N (mk3 a0 a1 a2 b0 b1 b2 c0 c1 c2)) (M + 4) ([zeroR, zeroR, zeroR], ((0 : Nat) : Int)) by rw [← hM]; rfl]
    simp only [loopN, s0.1]
    rw [show ([zeroR, zeroR, zeroR].set 0 (R (mnQ b0 c0)), ((0 + 1 : Nat) : Int)) = ([R (mnQ b0 c0), zeroR, zeroR], ((1 : Nat) : Int)) from rfl]
    simp only [s1.1]
    rw [show ([R (mnQ b0 c0), zeroR, zeroR].set 1 (R (mnQ b1 c1)), ((1 + 1 : Nat) : Int)) = ([R (mnQ b0 c0), R (mnQ b1 c1), zeroR], ((2 : Nat) : Int)) from rfl]
    simp only [s2.1]
    rw [show ([R (mnQ b0 c0), R (mnQ b1 c1), zeroR].set 2 (R (mnQ b2 c2)), ((2 + 1 : Nat) : Int)) = ([R (mnQ b0 c0), R (mnQ b1 c1), R (mnQ b2 c2)], ((3 : Nat) : Int)) from rfl]
    simp only [e3]
  · rw [show loopN (f_ref02_Survey_L1 N (mk3 a0 a1 a2 b0 b1 b2 c0 c1 c2)) N ([zeroR, zeroR, zeroR], 0) = loopN (f_ref02_Survey_L1 N (mk3 a0 a1 a2 b0 b1 b2 c0 c1 c2)) (M + 4) ([zeroR, zeroR, zeroR], ((0 : Nat) : Int)) by rw [← hM]; rfl]
    simp only [loopN, s0.2]
    rw [show ([zeroR, zeroR, zeroR].set 0 (R (mnQ b0 c0)), ((0 + 1 : Nat) : Int)) = ([R (mnQ b0 c0), zeroR, zeroR], ((1 : Nat) : Int)) from rfl]
    simp only [s1.2]
    rw [show ([R (mnQ b0 c0), zeroR, zeroR].set 1 (R (mnQ b1 c1)), ((1 + 1 : Nat) : Int)) = ([R (mnQ b0 c0), R (mnQ b1 c1), zeroR], ((2 : Nat) : Int)) from rfl]
    simp only [s2.2]
    rw [show ([R (mnQ b0 c0), R (mnQ b1 c1), zeroR].set 2 (R (mnQ b2 c2)), ((2 + 1 : Nat) : Int)) = ([R (mnQ b0 c0), R (mnQ b1 c1), R (mnQ b2 c2)], ((3 : Nat) : Int)) from rfl]
    simp only [e3']
include ha
omit hN in
theorem sv_sz : Sz 128 (mnQ b0 c0) ∧ Sz 128 (mnQ b1 c1) ∧ Sz 128 (mnQ b2 c2) ∧ Sz 320 (slQ a0 a2 b0 b2 c0 c2) ∧ Sz 512 (skQ a0 a2 b0 b2 c0 c2) ∧ Sz 1024 (bdQ a0 a1 a2 b0 b1 b2 c0 c1 c2) ∧ Sz 1664 (s4Q a0 a1 a2 b0 b1 b2 c0 c1 c2) ∧ Sz 64 (a0 : Rat) ∧ Sz 64 (a1 : Rat) ∧ Sz 64 (a2 : Rat) ∧ Sz 64 ((a2 - a0 : Int) : Rat) := by
  obtain ⟨p0, p1, p2⟩ := ok3_spec hb
  obtain ⟨r0, r1, r2⟩ := ok3_spec hc
  obtain ⟨q0, q1, q2⟩ := ok3_spec ha
  have z0 := mnSz p0 r0; have z1 := mnSz p1 r1; have z2 := mnSz p2 r2
  have y0 : Sz 64 (a0 : Rat) := Sz.i64 (by omega) (by omega)
  have y1 : Sz 64 (a1 : Rat) := Sz.i64 (by omega) (by omega)
  have y2 : Sz 64 (a2 : Rat) := Sz.i64 (by omega) (by omega)
  have yd : Sz 64 ((a2 - a0 : Int) : Rat) := Sz.i64 (by omega) (by omega)
  have s1 : Sz 320 (slQ a0 a2 b0 b2 c0 c2) := ((z2.sub z0).div yd).mono (by omega)
  have s2 : Sz 512 (skQ a0 a2 b0 b2 c0 c2) := (z0.sub (s1.mul y0)).mono (by omega)
  have s3 : Sz 1024 (bdQ a0 a1 a2 b0 b1 b2 c0 c1 c2) := (z1.sub (s2.add (s1.mul y1))).mono (by omega)
  have z3 : Sz 64 ((3 : Int) : Rat) := Sz.i64 (by omega) (by omega)
  have z4 : Sz 64 ((4 : Int) : Rat) := Sz.i64 (by omega) (by omega)
  exact ⟨z0, z1, z2, s1, s2, s3, (s2.add ((s3.mul z3).div z4)).mono (by omega), y0, y1, y2, yd⟩
theorem sv_eq (h1 : a0 < a1) (h2 : a1 < a2) : f_hull_Survey N (mk3 a0 a1 a2 b0 b1 b2 c0 c1 c2) = some (⟨R (s4Q a0 a1 a2 b0 b1 b2 c0 c1 c2), R (slQ a0 a2 b0 b2 c0 c2)⟩, R (bdQ a0 a1 a2 b0 b1 b2 c0 c1 c2), 0) ∧
    f_ref02_Survey N (mk3 a0 a1 a2 b0 b1 b2 c0 c1 c2) = some (⟨R (s4Q a0 a1 a2 b0 b1 b2 c0 c1 c2), R (slQ a0 a2 b0 b2 c0 c2)⟩, R (bdQ a0 a1 a2 b0 b1 b2 c0 c1 c2)) := by
  obtain ⟨q0, q1, q2⟩ := ok3_spec ha
  obtain ⟨z0, z1, z2, s1, s2, s3, s4, y0, y1, y2, yd⟩ := sv_sz ha hb hc
  obtain ⟨m1, m2⟩ := means (a0 := a0) (a1 := a1) (a2 := a2) hN hb hc
  have x3 : Sz 64 ((3 : Int) : Rat) := Sz.i64 (by omega) (by omega)
  have x4 : Sz 64 ((4 : Int) : Rat) := Sz.i64 (by omega) (by omega)
  have hd : ((a2 - a0 : Int) : Rat) ≠ 0 := rat_ne (by omega)
  have h4 : ((4 : Int) : Rat) ≠ 0 := rat_ne (by omega)
  have i0 : idx [a0, a1, a2] 0 = some a0 := rfl
  have i1 : idx [a0, a1, a2] 1 = some a1 := rfl
  have i2 : idx [a0, a1, a2] 2 = some a2 := rfl
  have j0 : idx [R (mnQ b0 c0), R (mnQ b1 c1), R (mnQ b2 c2)] 0 = some (R (mnQ b0 c0)) := rfl
  have j1 : idx [R (mnQ b0 c0), R (mnQ b1 c1), R (mnQ b2 c2)] 1 = some (R (mnQ b1 c1)) := rfl
  have j2 : idx [R (mnQ b0 c0), R (mnQ b1 c1), R (mnQ b2 c2)] 2 = some (R (mnQ b2 c2)) := rfl
  constructor
  · unfold f_hull_Survey
    rw [show loopN (f_hull_Survey_L3 N (mk3 a0 a1 a2 b0 b1 b2 c0 c1 c2)) N ((⟨(⟨(⟨false, []⟩ : GInt), (⟨false, []⟩ : GInt)⟩ : GRat), (⟨(⟨false, []⟩ : GInt), (⟨false, []⟩ : GInt)⟩ : GRat)⟩ : GAttitude), (⟨(⟨false, []⟩ : GInt), (⟨false, []⟩ : GInt)⟩ : GRat), 0) = _ from sv_l3 hN a0 a1 a2 b0 b1 b2 c0 c1 c2, ha, hb, hc, bS]
    simp only [Bool.and_self, cond_true, Sum.elim_inl, cmp_geq]
    rw [i0, bS, i1, bS, dF (show ¬a1 ≤ a0 by omega), Bool.not_false, cond_true, bS, cond_true, i2, bS, Bool.false_or, dF (show ¬a2 ≤ a1 by omega), cond_false]
    rw [show loopN (f_hull_Survey_L2 N (mk3 a0 a1 a2 b0 b1 b2 c0 c1 c2)) N ([(⟨(⟨false, []⟩ : GInt), (⟨false, []⟩ : GInt)⟩ : GRat), (⟨(⟨false, []⟩ : GInt), (⟨false, []⟩ : GInt)⟩ : GRat), (⟨(⟨false, []⟩ : GInt), (⟨false, []⟩ : GInt)⟩ : GRat)], 0) = _ from m1, bS, j2, bS, j0, bS, SubRat_eq (Qf.R z2) (Qf.R z0) (by omega) hN, bS, bS, bS, w64 (by omega) (by omega), whole_eq (by omega) (by omega) hN, bS,
      over_eq (Qf.R (z2.sub z0)) (Qf.R yd) (by omega) hd hN, bS, show (mnQ b2 c2 - mnQ b0 c0) / ((a2 - a0 : Int) : Rat) = slQ a0 a2 b0 b2 c0 c2 from rfl, bS, bS, whole_eq (by omega) (by omega) hN, bS, times2 (Qf.R s1) (Qf.R y0) s1 y0 (by omega) hN, bS,
      SubRat_eq (Qf.R z0) (Qf.R (s1.mul y0)) (by omega) hN, bS, show mnQ b0 c0 - slQ a0 a2 b0 b2 c0 c2 * (a0 : Rat) = skQ a0 a2 b0 b2 c0 c2 from rfl, j1, bS, bS, whole_eq (by omega) (by omega) hN, bS, times2 (Qf.R s1) (Qf.R y1) s1 y1 (by omega) hN, bS, AddRat_eq (Qf.R s2) (Qf.R (s1.mul y1)) (by omega) hN, bS,
      SubRat_eq (Qf.R z1) (Qf.R (s2.add (s1.mul y1))) (by omega) hN, bS, show mnQ b1 c1 - (skQ a0 a2 b0 b2 c0 c2 + slQ a0 a2 b0 b2 c0 c2 * (a1 : Rat)) = bdQ a0 a1 a2 b0 b1 b2 c0 c1 c2 from rfl, whole_eq (by omega) (by omega) hN, bS, times2 (Qf.R s3) (Qf.R x3) s3 x3 (by omega) hN, bS, whole_eq (by omega) (by omega) hN, bS,
      over_eq (Qf.R (s3.mul x3)) (Qf.R x4) (by omega) h4 hN, bS, AddRat_eq (Qf.R s2) (Qf.R ((s3.mul x3).div x4)) (by omega) hN]
    rfl
  · have e4 : bdQ a0 a1 a2 b0 b1 b2 c0 c1 c2 * (((3 : Int) : Rat) / ((4 : Int) : Rat)) = bdQ a0 a1 a2 b0 b1 b2 c0 c1 c2 * ((3 : Int) : Rat) / ((4 : Int) : Rat) := by grind
    unfold f_ref02_Survey
    rw [show loopN (f_ref02_Survey_L1 N (mk3 a0 a1 a2 b0 b1 b2 c0 c1 c2)) N ([(⟨(⟨false, []⟩ : GInt), (⟨false, []⟩ : GInt)⟩ : GRat), (⟨(⟨false, []⟩ : GInt), (⟨false, []⟩ : GInt)⟩ : GRat), (⟨(⟨false, []⟩ : GInt), (⟨false, []⟩ : GInt)⟩ : GRat)], 0) = _ from m2, bS, j2, bS, j0, bS, rSubRat_eq (Qf.R z2) (Qf.R z0) (by omega) hN, bS]
    dsimp only
    rw [i2, bS, i0, bS, w64 (by omega) (by omega), W_R (by omega) (by omega) hN, bS,
      rQuoRat_eq (Qf.R (z2.sub z0)) (Qf.R yd) (by omega) hd hN, bS, show (mnQ b2 c2 - mnQ b0 c0) / ((a2 - a0 : Int) : Rat) = slQ a0 a2 b0 b2 c0 c2 from rfl, bS, bS, W_R (by omega) (by omega) hN, bS, rMulRat_eq (Qf.R s1) (Qf.R y0) (by omega) hN, bS,
      rSubRat_eq (Qf.R z0) (Qf.R (s1.mul y0)) (by omega) hN, bS, show mnQ b0 c0 - slQ a0 a2 b0 b2 c0 c2 * (a0 : Rat) = skQ a0 a2 b0 b2 c0 c2 from rfl, i1, bS, W_R (by omega) (by omega) hN, bS, rMulRat_eq (Qf.R s1) (Qf.R y1) (by omega) hN, bS, rAddRat_eq (Qf.R s2) (Qf.R (s1.mul y1)) (by omega) hN, bS, j1, bS,
      rSubRat_eq (Qf.R z1) (Qf.R (s2.add (s1.mul y1))) (by omega) hN, bS, show mnQ b1 c1 - (skQ a0 a2 b0 b2 c0 c2 + slQ a0 a2 b0 b2 c0 c2 * (a1 : Rat)) = bdQ a0 a1 a2 b0 b1 b2 c0 c1 c2 from rfl, Q_R (by omega) (by omega) (by omega) (by omega) (by omega) hN, bS, rMulRat_eq (Qf.R s3) (Qf.R (x3.div x4)) (by omega) hN, bS, e4,
      rAddRat_eq (Qf.R s2) (Qf.R ((s3.mul x3).div x4)) (by omega) hN]
    rfl
theorem marks_loop (h1 : a0 < a1) (h2 : a1 < a2) : loopN (f_law02_HullSurveys_L1 N (mk3 a0 a1 a2 b0 b1 b2 c0 c1 c2) (⟨R (s4Q a0 a1 a2 b0 b1 b2 c0 c1 c2), R (slQ a0 a2 b0 b2 c0 c2)⟩, R (bdQ a0 a1 a2 b0 b1 b2 c0 c1 c2), 0)) N 0 = some (.inl ()) := by
  obtain ⟨q0, q1, q2⟩ := ok3_spec ha
  obtain ⟨p0, p1, p2⟩ := ok3_spec hb
  obtain ⟨r0, r1, r2⟩ := ok3_spec hc
  obtain ⟨z0, z1, z2, s1, s2, s3, s4, y0, y1, y2, yd⟩ := sv_sz ha hb hc
  have hd : ((a2 - a0 : Int) : Rat) ≠ 0 := rat_ne (by omega)
  have hd' : (a2 : Rat) - (a0 : Rat) ≠ 0 := by rw [← Rat.intCast_sub]; exact hd
  by_cases hb0 : bdQ a0 a1 a2 b0 b1 b2 c0 c1 c2 = 0
  · have k0 : ySet (s4Q a0 a1 a2 b0 b1 b2 c0 c1 c2) (slQ a0 a2 b0 b2 c0 c2) a0 = mnQ b0 c0 := by
      unfold ySet s4Q skQ; rw [hb0]; grind
    have k1 : ySet (s4Q a0 a1 a2 b0 b1 b2 c0 c1 c2) (slQ a0 a2 b0 b2 c0 c2) a1 = mnQ b1 c1 := by
      unfold ySet s4Q; rw [hb0]
      unfold bdQ at hb0
      grind
    have k2 : ySet (s4Q a0 a1 a2 b0 b1 b2 c0 c1 c2) (slQ a0 a2 b0 b2 c0 c2) a2 = mnQ b2 c2 := by
      unfold ySet s4Q skQ; rw [hb0]
      have e : slQ a0 a2 b0 b2 c0 c2 * ((a2 : Rat) - (a0 : Rat)) = mnQ b2 c2 - mnQ b0 c0 := by
        unfold slQ; rw [Rat.intCast_sub]; grind
      grind
    have step : ∀ (k : Nat) (x b c : Int), k < 3 → idx [a0, a1, a2] (k : Int) = some x → idx [b0, b1, b2] (k : Int) = some b → idx [c0, c1, c2] (k : Int) = some c → (-1000000 ≤ x ∧ x ≤ 1000000) → (-1000000 ≤ b ∧ b ≤ 1000000) → (-1000000 ≤ c ∧ c ≤ 1000000) → ySet (s4Q a0 a1 a2 b0 b1 b2 c0 c1 c2) (slQ a0 a2 b0 b2 c0 c2) x = mnQ b c →
        f_law02_HullSurveys_L1 N (mk3 a0 a1 a2 b0 b1 b2 c0 c1 c2) (⟨R (s4Q a0 a1 a2 b0 b1 b2 c0 c1 c2), R (slQ a0 a2 b0 b2 c0 c2)⟩, R (bdQ a0 a1 a2 b0 b1 b2 c0 c1 c2), 0) (k : Int) = some (.inl ((k + 1 : Nat) : Int)) := by
      intro k x b c hk i1 i2 i3 hx hb' hc' e
      have zy := mnSz hb' hc'
      unfold f_law02_HullSurveys_L1
      simp only [cmp_lss, cmp_eql]
      rw [dT (show (k : Int) < 3 by omega), cond_true, rSignRat_eq (Qf.R s3) (by omega) hN, bS, sgnQ_z, dT hb0, Bool.and_self, cond_true, i1, bS, Imm_eq (k := 1664) (a := ⟨R (s4Q a0 a1 a2 b0 b1 b2 c0 c1 c2), R (slQ a0 a2 b0 b2 c0 c2)⟩) (Qf.R s4) (Qf.R (s1.mono (by omega))) (by omega) (by omega) (by omega) hN, bS, e, i2, bS, i3, bS, w64 (n := b + c) (by omega) (by omega),
        Q_R (by omega) (by omega) (by omega) (by omega) (by omega) hN, bS, show ((b + c : Int) : Rat) / ((2 : Int) : Rat) = mnQ b c from rfl, SameRat_R zy (by omega) hN, bS, dT rfl, Bool.not_true, cond_false, w64s (by omega)]
    have e0 := step 0 a0 b0 c0 (by omega) rfl rfl rfl q0 p0 r0 k0
    have e1 := step 1 a1 b1 c1 (by omega) rfl rfl rfl q1 p1 r1 k1
    have e2 := step 2 a2 b2 c2 (by omega) rfl rfl rfl q2 p2 r2 k2
    have e3 : f_law02_HullSurveys_L1 N (mk3 a0 a1 a2 b0 b1 b2 c0 c1 c2) (⟨R (s4Q a0 a1 a2 b0 b1 b2 c0 c1 c2), R (slQ a0 a2 b0 b2 c0 c2)⟩, R (bdQ a0 a1 a2 b0 b1 b2 c0 c1 c2), 0) ((3 : Nat) : Int) = some (.inr (.inl ())) := rfl
    obtain ⟨M, hM⟩ : ∃ M, N = M + 4 := ⟨N - 4, by omega⟩
    generalize f_law02_HullSurveys_L1 N (mk3 a0 a1 a2 b0 b1 b2 c0 c1 c2) (⟨R (s4Q a0 a1 a2 b0 b1 b2 c0 c1 c2), R (slQ a0 a2 b0 b2 c0 c2)⟩, R (bdQ a0 a1 a2 b0 b1 b2 c0 c1 c2), 0) = f at e0 e1 e2 e3
    rw [hM]
    show loopN f (M + 4) ((0 : Nat) : Int) = _
    rw [show loopN f (M + 4) ((0 : Nat) : Int) = loopN f (M + 3) ((1 : Nat) : Int) by rw [loopN, e0]]
    rw [show loopN f (M + 3) ((1 : Nat) : Int) = loopN f (M + 2) ((2 : Nat) : Int) by rw [loopN, e1]]
    rw [show loopN f (M + 2) ((2 : Nat) : Int) = loopN f (M + 1) ((3 : Nat) : Int) by rw [loopN, e2]]
    rw [loopN, e3]
  · have e0 : f_law02_HullSurveys_L1 N (mk3 a0 a1 a2 b0 b1 b2 c0 c1 c2) (⟨R (s4Q a0 a1 a2 b0 b1 b2 c0 c1 c2), R (slQ a0 a2 b0 b2 c0 c2)⟩, R (bdQ a0 a1 a2 b0 b1 b2 c0 c1 c2), 0) 0 = some (.inr (.inl ())) := by
      unfold f_law02_HullSurveys_L1
      simp only [cmp_lss, cmp_eql]
      rw [dT (show (0 : Int) < 3 by omega), cond_true, rSignRat_eq (Qf.R s3) (by omega) hN, bS, sgnQ_z, dF hb0]; rfl
    obtain ⟨M, hM⟩ : ∃ M, N = M + 1 := ⟨N - 1, by omega⟩
    generalize f_law02_HullSurveys_L1 N (mk3 a0 a1 a2 b0 b1 b2 c0 c1 c2) (⟨R (s4Q a0 a1 a2 b0 b1 b2 c0 c1 c2), R (slQ a0 a2 b0 b2 c0 c2)⟩, R (bdQ a0 a1 a2 b0 b1 b2 c0 c1 c2), 0) = f at e0
    rw [hM]
    simp only [loopN, e0]
end
theorem far_loop {N : Nat} (hN : 2 ^ 64 ≤ N) {a0 a1 a2 b0 b1 b2 c0 c1 c2 : Int} : loopN (f_law02_HullSurveys_L2 N (mk3 a0 a1 a2 b0 b1 b2 c0 c1 c2)) N (0, 0) = some (bif ok3 a0 a1 a2 && ok3 b0 b1 b2 && ok3 c0 c1 c2 then 0 else 2) := by
  have step : ∀ (k : Nat) (x b c z : Int), k < 3 → idx [a0, a1, a2] (k : Int) = some x → idx [b0, b1, b2] (k : Int) = some b → idx [c0, c1, c2] (k : Int) = some c →
      f_law02_HullSurveys_L2 N (mk3 a0 a1 a2 b0 b1 b2 c0 c1 c2) (z, (k : Int)) = some (.inl (bif ok3 x b c then z else 2, ((k + 1 : Nat) : Int))) := by
    intro k x b c z hk i1 i2 i3
    unfold f_law02_HullSurveys_L2
    simp only [cmp_lss]
    rw [dT (by omega), cond_true, i1, bS, far_eq, bS, i2, i3, w64s (by omega)]
    unfold ok3
    cases rg6 x
    · rfl
    · simp only [Bool.not_true, Bool.not_false, cond_true, bS, far_eq]
      cases rg6 b
      · rfl
      · simp only [Bool.not_true, Bool.or_self, Bool.not_false, cond_true, bS]
        cases rg6 c <;> rfl
  have e3 : ∀ z : Int, f_law02_HullSurveys_L2 N (mk3 a0 a1 a2 b0 b1 b2 c0 c1 c2) (z, ((3 : Nat) : Int)) = some (.inr z) := fun z => rfl
  have e0 := fun z => step 0 a0 b0 c0 z (by omega) rfl rfl rfl
  have e1 := fun z => step 1 a1 b1 c1 z (by omega) rfl rfl rfl
  have e2 := fun z => step 2 a2 b2 c2 z (by omega) rfl rfl rfl
  obtain ⟨M, hM⟩ : ∃ M, N = M + 4 := ⟨N - 4, by omega⟩
  generalize f_law02_HullSurveys_L2 N (mk3 a0 a1 a2 b0 b1 b2 c0 c1 c2) = f at e0 e1 e2 e3
  rw [hM]
  show loopN f (M + 4) (0, ((0 : Nat) : Int)) = _
  have fin : loopN f (M + 4) (0, ((0 : Nat) : Int)) = some (bif ok3 a2 b2 c2 then (bif ok3 a1 b1 c1 then (bif ok3 a0 b0 c0 then 0 else 2) else 2) else 2) := by
    rw [show loopN f (M + 4) (0, ((0 : Nat) : Int)) = loopN f (M + 3) (bif ok3 a0 b0 c0 then 0 else 2, ((1 : Nat) : Int)) by rw [loopN, e0]]
    rw [show ∀ z, loopN f (M + 3) (z, ((1 : Nat) : Int)) = loopN f (M + 2) (bif ok3 a1 b1 c1 then z else 2, ((2 : Nat) : Int)) from fun z => by rw [loopN, e1]]
    rw [show ∀ z, loopN f (M + 2) (z, ((2 : Nat) : Int)) = loopN f (M + 1) (bif ok3 a2 b2 c2 then z else 2, ((3 : Nat) : Int)) from fun z => by rw [loopN, e2]]
    rw [loopN, e3]
  rw [fin]
  unfold ok3
  cases rg6 a0 <;> cases rg6 a1 <;> cases rg6 a2 <;> cases rg6 b0 <;> cases rg6 b1 <;> cases rg6 b2 <;> cases rg6 c0 <;> cases rg6 c1 <;> cases rg6 c2 <;> rfl
theorem list3 {l : List Int} (h : l.length = 3) : ∃ a b c, l = [a, b, c] := by
  match l, h with
  | [a, b, c], _ => exact ⟨a, b, c, rfl⟩
theorem sameA_refl {N : Nat} {a : GAttitude} (h1 : Len a.Sink) (h2 : Len a.Slope) (hN : 2 ^ 64 ≤ N) : f_base_SameAttitude N a a = some true := by
  unfold f_base_SameAttitude
  rw [same_refl h1 hN, bS, cond_true, same_refl h2 hN]; rfl
theorem law_HullSurveys (x0 : GMarks) (h0 : x0.ok) : f_law02_HullSurveys (2 ^ 70) x0 = some true := by
  have hN : 2 ^ 64 ≤ (2 ^ 70 : Nat) := by decide
  obtain ⟨X, B, C⟩ := x0
  obtain ⟨⟨h1, _⟩, ⟨h2, _⟩, ⟨h3, _⟩, _⟩ := h0
  obtain ⟨a0, a1, a2, rfl⟩ := list3 h1
  obtain ⟨b0, b1, b2, rfl⟩ := list3 h2
  obtain ⟨c0, c1, c2, rfl⟩ := list3 h3
  have i0 : idx [a0, a1, a2] 0 = some a0 := rfl
  have i1 : idx [a0, a1, a2] 1 = some a1 := rfl
  have i2 : idx [a0, a1, a2] 2 = some a2 := rfl
  unfold f_law02_HullSurveys
  rw [awake_true, bS, Bool.not_true, cond_false]
  have zA : Len zeroA.Sink := Len.zero
  have zB : Len zeroA.Slope := Len.zero
  have err : ∀ z : Int, ((bif (cmpI .eql z z) then (f_base_SameAttitude (2 ^ 70) zeroA zeroA) else some false).bind fun v21 => (bif ((cmpI .eql z z) && v21) then (f_base_SameRat (2 ^ 70) zeroR zeroR) else some false).bind fun v22 => some (((cmpI .eql z z) && v21) && v22)) = some true := fun z => by
    rw [cmp_eql, dT rfl, cond_true, sameA_refl zA zB hN, bS, Bool.and_self, cond_true, same_refl Len.zero hN]; rfl
  by_cases hok : (ok3 a0 a1 a2 && ok3 b0 b1 b2 && ok3 c0 c1 c2) = true
  · have hok' := hok
    simp only [Bool.and_eq_true] at hok'
    obtain ⟨⟨ha, hb⟩, hc⟩ := hok'
    by_cases ho : a0 < a1 ∧ a1 < a2
    · obtain ⟨s1, s2⟩ := sv_eq hN ha hb hc ho.1 ho.2
      obtain ⟨z0, z1, z2, y1, y2, y3, y4, _⟩ := sv_sz ha hb hc
      rw [s1, bS, far_loop hN, hok, cond_true, bS]
      simp only [cmp_eql, cmp_leq, decide_true, cond_true]
      rw [i1, bS, i0, bS, dF (show ¬a1 ≤ a0 by omega), Bool.not_false, Bool.and_self, cond_true, i2, bS, cond_true, bS, dF (show ¬a2 ≤ a1 by omega), Bool.or_self, Bool.and_false, cond_false, bS]
      simp only [cmp_neq, decide_true, Bool.not_true, cond_false, Bool.not_false, cond_true]
      rw [s2, bS, sameA_refl (Len.R y4 (by omega)) (Len.R y1 (by omega)) hN, bS, Bool.not_true, Bool.or_self, Bool.not_false, cond_true, same_refl (Len.R y3 (by omega)) hN, bS, Bool.not_true, Bool.or_self, cond_false, marks_loop hN ha hb hc ho.1 ho.2]
      rfl
    · have s1 : f_hull_Survey (2 ^ 70) (mk3 a0 a1 a2 b0 b1 b2 c0 c1 c2) = some (zeroA, zeroR, 10) := by
        unfold f_hull_Survey
        rw [show loopN (f_hull_Survey_L3 (2 ^ 70) (mk3 a0 a1 a2 b0 b1 b2 c0 c1 c2)) (2 ^ 70) ((⟨(⟨(⟨false, []⟩ : GInt), (⟨false, []⟩ : GInt)⟩ : GRat), (⟨(⟨false, []⟩ : GInt), (⟨false, []⟩ : GInt)⟩ : GRat)⟩ : GAttitude), (⟨(⟨false, []⟩ : GInt), (⟨false, []⟩ : GInt)⟩ : GRat), 0) = _ from sv_l3 hN a0 a1 a2 b0 b1 b2 c0 c1 c2, hok, cond_true, bS, Sum.elim_inl]
        simp only [cmp_geq]
        rw [i0, bS, i1, bS]
        by_cases h : a1 ≤ a0
        · rw [dT h]; rfl
        · rw [dF h, Bool.not_false, cond_true, bS, cond_true, i2, bS, dT (show a2 ≤ a1 by omega)]; rfl
      rw [s1, bS, far_loop hN, hok, cond_true, bS]
      simp only [cmp_eql, cmp_leq, decide_true, cond_true]
      rw [i1, bS, i0, bS]
      by_cases h : a1 ≤ a0
      · rw [dT h]
        exact err 10
      · rw [dF h, Bool.not_false, Bool.and_self, cond_true, i2, bS, cond_true, bS, dT (show a2 ≤ a1 by omega)]
        exact err 10
  · rw [Bool.not_eq_true] at hok
    have s1 : f_hull_Survey (2 ^ 70) (mk3 a0 a1 a2 b0 b1 b2 c0 c1 c2) = some (zeroA, zeroR, 2) := by
      unfold f_hull_Survey
      rw [show loopN (f_hull_Survey_L3 (2 ^ 70) (mk3 a0 a1 a2 b0 b1 b2 c0 c1 c2)) (2 ^ 70) ((⟨(⟨(⟨false, []⟩ : GInt), (⟨false, []⟩ : GInt)⟩ : GRat), (⟨(⟨false, []⟩ : GInt), (⟨false, []⟩ : GInt)⟩ : GRat)⟩ : GAttitude), (⟨(⟨false, []⟩ : GInt), (⟨false, []⟩ : GInt)⟩ : GRat), 0) = _ from sv_l3 hN a0 a1 a2 b0 b1 b2 c0 c1 c2, hok]
      rfl
    rw [s1, bS, far_loop hN, hok]
    exact err 2
end Go.KB
