/- Plain laws of the base package: integers and fractions, comparisons. Plain laws: the numbers of the hull package: whole numbers, products, quotients, masses. No condition. -/
import Derived.Test.YtbedbjphickpaaaGreatPZc
import Derived.Test.YtbedbjphickpaaaGreatPZa
namespace Go.KB
set_option linter.unusedVariables false
theorem blimbs_I {N n : Nat} (h : n < 18446744073709551616) (hN : 2 ^ 64 ≤ N) : f_base_limbs N (n : Int) = some (limbs n) := by
 unfold f_base_limbs
 rw [loopN_eq (fun s => ∃ k : Nat, s.1 = (k : Int) ∧ k ≤ n ∧ s.2 ++ limbs k = limbs n) (fun s => s.1.toNat) (limbs n) ?_ N _ ⟨n, rfl, Nat.le_refl _, by simp⟩ (by simp only []; omega)]
 ·rfl
 ·rintro ⟨s, acc⟩ ⟨k, hs, hk, hl⟩
  simp only at hs hl; subst hs
  unfold f_base_limbs_L1
  simp only [cmp_gtr]
  by_cases h0 : k = 0
  ·subst h0
   refine .inr ?_
   rw [limbs_zero, List.append_nil] at hl
   rw [hl]; rfl
  ·have hlen := congrArg List.length hl
   have : nl n ≤ 4 := nl_le (by omega)
   rw [List.length_append, nl_eq, nl_eq] at hlen
   rw [dT (by omega), cond_true, and64i (by omega), u16n, Nat.mod_mod, app_ok (by simp; unfold lim; omega), bS, shr16 (by decide), bS]
   refine .inl ⟨_, rfl, ⟨k / 65536, rfl, by omega, ?_⟩, by simp only []; omega⟩
   rw [← hl, limbs_pos h0]; simp
theorem Z_I {N : Nat} {z : Int} (h0 : -9223372036854775808 ≤ z) (h1 : z ≤ 9223372036854775807) (hN : 2 ^ 64 ≤ N) : f_base_Z N z = some (I z) := by
  unfold f_base_Z
  rw [cmp_lss]
  by_cases hz : z < 0
  · have e : IntKind.u64.wrap (IntKind.u64.wrap (IntKind.i64.wrap (0 - IntKind.i64.wrap (z + 1))) + 1) = ((z.natAbs : Nat) : Int) := by
      rw [w64i (n := z + 1) (by omega) (by omega), w64i (by omega) (by omega), u64i (n := 0 - (z + 1)) (by omega) (by omega), u64i (by omega) (by omega)]; omega
    rw [dT hz, cond_true, e, blimbs_I (by omega) hN, bS]
    unfold I; rw [dT hz]
  · have e : IntKind.u64.wrap z = ((z.natAbs : Nat) : Int) := by rw [u64i (by omega) (by omega)]; omega
    rw [dF hz, cond_false, e, blimbs_I (by omega) hN, bS]
    unfold I; rw [dF hz]
theorem W_R {N : Nat} {z : Int} (h0 : -9223372036854775808 ≤ z) (h1 : z ≤ 9223372036854775807) (hN : 2 ^ 64 ≤ N) : f_base_W N z = some (R (z : Rat)) := by
 unfold f_base_W
 rw [Z_I h0 h1 hN, bS, Z_I (by omega) (by omega) hN, bS]
 unfold R; rw [Rat.num_intCast, Rat.den_intCast]; rfl
def sameI (x y : GInt) : Bool := (x.Neg == y.Neg) && decide (x.Limbs = y.Limbs)
def sameR (x y : GRat) : Bool := sameI x.Num y.Num && sameI x.Den y.Den
theorem list_same_loop {α O : Type} [DecidableEq α] {a b : List α} {N : Nat} {f : Int → Option (Int ⊕ (Unit ⊕ Bool))} (hlen : a.length = b.length) (hl : a.length < 9223372036854775807) (hN : a.length < N)
  (hf : ∀ i : Nat, (ha : i < a.length) → (hb : i < b.length) → f (i : Int) = if a[i] = b[i] then some (.inl ((i + 1 : Nat) : Int)) else some (.inr (.inr false))) (he : f (a.length : Int) = some (.inr (.inl ()))) :
  ((loopN f N 0).bind fun o6 => Sum.elim (fun l8 => some true) (fun r9 => some r9) o6) = some (decide (a = b)) := by
 by_cases hab : a = b
 ·subst hab
  rw [loopN_range a.length (.inl ()) (fun _ => True) (fun i hi _ => .inl ⟨by rw [hf i hi hi, if_pos rfl], trivial⟩) (fun _ => he) trivial N hN]
  simp
 ·rw [loopN_range a.length (.inr false) (fun i => a.take i = b.take i) (fun i hi hp => by
   have hb : i < b.length := by omega
   rw [hf i hi hb]
   by_cases h : a[i] = b[i]
   ·rw [if_pos h]
    refine .inl ⟨rfl, ?_⟩
    rw [List.take_succ_eq_append_getElem hi, List.take_succ_eq_append_getElem hb, hp, h]
   ·rw [if_neg h]; exact .inr rfl) (fun hp => absurd (by rw [List.take_length, hlen, List.take_length] at hp; exact hp) hab) rfl N hN]
  simp [hab]
theorem SameInt_eq {N : Nat} {x y : GInt} (hx : x.Limbs.length < 9223372036854775807) (hN : x.Limbs.length < N) : f_base_SameInt N x y = some (sameI x y) := by
  unfold f_base_SameInt sameI
  simp only [cmp_neq]
  by_cases hs : x.Neg = y.Neg
  · by_cases hl : x.Limbs.length = y.Limbs.length
    · rw [hs, hl, dT rfl]
      simp only [beq_self_eq_true, Bool.not_true, Bool.or_false, cond_false, Bool.true_and]
      refine list_same_loop (O := Unit) hl hx hN (fun i ha hb => ?_) ?_
      · unfold f_base_SameInt_L1
        simp only [cmp_lss, cmp_neq]
        rw [dT (by omega), cond_true, idx_nat ha, bS, idx_nat hb, bS, w64s (by omega)]
        by_cases h : x.Limbs[i] = y.Limbs[i]
        · rw [dT h, if_pos h]; rfl
        · rw [dF h, if_neg h]; rfl
      · unfold f_base_SameInt_L1
        simp only [cmp_lss]
        rw [dF (by omega)]; rfl
    · rw [dF (show ¬ ((x.Limbs.length : Int) = (y.Limbs.length : Int)) by omega)]
      rw [dF (show ¬ x.Limbs = y.Limbs from fun h => hl (by rw [h]))]
      simp
  · rw [show (x.Neg == y.Neg) = false by simpa using hs]; simp
theorem SameRat_eq {N : Nat} {x y : GRat} (h1 : x.Num.Limbs.length < 1000000) (h2 : x.Den.Limbs.length < 1000000) (hN : 2 ^ 64 ≤ N) : f_base_SameRat N x y = some (sameR x y) := by
 unfold f_base_SameRat sameR
 rw [SameInt_eq (by omega) (by omega), bS]
 cases sameI x.Num y.Num with
 | false => rfl
 | true => rw [cond_true, SameInt_eq (by omega) (by omega)]; rfl
theorem sameR_iff {x y : GRat} : sameR x y = true ↔ x = y := by
 unfold sameR sameI
 simp only [Bool.and_eq_true, beq_iff_eq, decide_eq_true_eq]
 constructor
 ·rintro ⟨⟨h1, h2⟩, h3, h4⟩
  obtain ⟨⟨a, b⟩, ⟨c, d⟩⟩ := x; obtain ⟨⟨a', b'⟩, ⟨c', d'⟩⟩ := y
  simp only at h1 h2 h3 h4
  subst h1; subst h2; subst h3; subst h4; rfl
 ·rintro rfl; exact ⟨⟨rfl, rfl⟩, rfl, rfl⟩
theorem sameR_R {p q : Rat} : sameR (R p) (R q) = decide (p = q) := by
 rw [Bool.eq_iff_iff, sameR_iff, decide_eq_true_eq]
 exact ⟨R_inj, fun h => by rw [h]⟩
theorem R_len {k : Nat} {q : Rat} (h : Sz k q) (hk : k ≤ 4000000) : (R q).Num.Limbs.length < 1000000 ∧ (R q).Den.Limbs.length < 1000000 := by
 have h1 := (Qf.R h).ln
 have h2 := (Qf.R h).ld
 omega
theorem SameRat_R {N k : Nat} {p q : Rat} (h : Sz k p) (hk : k ≤ 4000000) (hN : 2 ^ 64 ≤ N) : f_base_SameRat N (R p) (R q) = some (decide (p = q)) := by
 obtain ⟨h1, h2⟩ := R_len h hk
 rw [SameRat_eq h1 h2 hN, sameR_R]
def zeroR : GRat := ⟨⟨false, []⟩, ⟨false, []⟩⟩
end Go.KB
namespace Go.KB
set_option linter.unusedVariables false
theorem Whole_eq {N k : Nat} {x : GInt} (hx : Io k x) (hk : k ≤ 400000) (hN : 2 ^ 64 ≤ N) : f_exact_Whole N x = some (R (ival x : Rat)) := by
 unfold f_exact_Whole
 rw [fraction_eq hx (show Io 1 (⟨false, [1]⟩ : GInt) from ⟨dig_one (by omega) (by omega), by simp⟩) hk (by omega) (by simp [ival, val]) hN, bS]
 rw [show ival (⟨false, [1]⟩ : GInt) = 1 by simp [ival, val]]
 congr 2
 grind
theorem whole_eq {N : Nat} {z : Int} (h0 : -9223372036854775808 ≤ z) (h1 : z ≤ 9223372036854775807) (hN : 2 ^ 64 ≤ N) : f_hull_whole N z = some (R (z : Rat)) := by
 unfold f_hull_whole
 rw [Of_I h0 h1 hN, bS, Whole_eq (io_int h0 h1) (by omega) hN, ival_I]; rfl
theorem exOver_eq {N k l : Nat} {x y : GRat} {p q : Rat} (hx : Qf k x p) (hy : Qf l y q) (hk : k + l ≤ 4000000) (hq0 : q ≠ 0) (hN : 2 ^ 64 ≤ N) : f_exact_over N x y = some (R (p / q)) := by
 unfold f_exact_over
 obtain ⟨b, hb, hbv, hbo⟩ := below_eq hx (by omega) hN
 obtain ⟨c, hc, hcv, hco⟩ := below_eq hy (by omega) hN
 have hn := nl_mul (ival x.Num).natAbs (below y).natAbs
 have hd := nl_mul (below x).natAbs (ival y.Num).natAbs
 have h1 := hx.ion.nl; have h2 := hy.ion.nl; have h3 := hbo.nl; have h4 := hco.nl
 rw [hbv] at h3; rw [hcv] at h4
 rw [← Int.natAbs_mul] at hn hd
 have hy0 : ival y.Num ≠ 0 := fun e => hq0 (by rw [← hy.vq]; unfold rv; rw [e]; simp [Rat.div_def])
 rw [hc, bS, Mul_eq hx.ion hco (by omega) hN, bS, hb, bS, Mul_eq hbo hy.ion (by omega) hN, bS, hbv, hcv]
 rw [fraction_eq (Io.I (Nat.le_refl _)) (Io.I (Nat.le_refl _)) (by omega) (by omega) (by rw [ival_I]; exact Int.mul_ne_zero (below_ne x) hy0) hN, bS, ival_I, ival_I, ← hx.vq, ← hy.vq]
 unfold rv
 have hb1 := rat_ne (below_ne x); have hb2 := rat_ne (below_ne y); have hb3 := rat_ne hy0
 rw [Rat.intCast_mul, Rat.intCast_mul]
 congr 2
 grind
theorem QuoRat_eq {N k l : Nat} {x y : GRat} {p q : Rat} (hx : Qf k x p) (hy : Qf l y q) (hk : k + l ≤ 4000000) (hq0 : q ≠ 0) (hN : 2 ^ 64 ≤ N) : f_exact_QuoRat N x y = some (R (p / q), 0) := by
 unfold f_exact_QuoRat
 rw [isZero_eq hy (by omega) hN, bS, dF hq0, cond_false, exOver_eq hx hy hk hq0 hN]; rfl
theorem over_eq {N k l : Nat} {x y : GRat} {p q : Rat} (hx : Qf k x p) (hy : Qf l y q) (hk : k + l ≤ 4000000) (hq0 : q ≠ 0) (hN : 2 ^ 64 ≤ N) : f_hull_over N x y = some (R (p / q)) := by
 unfold f_hull_over
 rw [QuoRat_eq hx hy hk hq0 hN]; rfl
theorem Sz.one : Sz 1 1 := by unfold Sz; decide
def ySet (a b : Rat) (x : Int) : Rat := a + b * (x : Rat)
end Go.KB
