/- Plain laws of the exact package: integers and fractions. No condition. -/
import Derived.Test.YtcpcedbnpieebaaPRat
namespace Go.KB
set_option linter.unusedVariables false

structure Io (k : Nat) (x : GInt) : Prop where
  dl : Dig x.Limbs
  ll : x.Limbs.length ≤ k
theorem nlv {l : List Int} (h : Dig l) : nl (val l) ≤ l.length := nl_le (val_lt h)
theorem Io.I {k : Nat} {z : Int} (h : nl z.natAbs ≤ k) : Io k (KB.I z) := ⟨dig_limbs _, h⟩
theorem Io.nl {k : Nat} {x : GInt} (h : Io k x) : nl (ival x).natAbs ≤ k := by rw [ival_abs]; exact Nat.le_trans (nlv h.dl) h.ll
theorem trim_val {N k : Nat} {x : GInt} (h : Io k x) (hk : k ≤ 900000) (hN : 2 ^ 64 ≤ N) : f_exact_trim N x.Limbs = some (limbs (ival x).natAbs) := by
  have := h.ll
  rw [ival_abs]; exact trim_eq h.dl (by omega) (by omega)
theorem signed_I {N n : Nat} {s : Bool} (hn : nl n ≤ 900000) (hN : 2 ^ 64 ≤ N) : f_exact_signed N s (limbs n) = some (I (bif s then -(n : Int) else n)) := by
  rw [signed_eq (by rw [nl_eq]; unfold lim; omega) (by rw [nl_eq]; omega), gint_I]
theorem Mul_eq {N k l : Nat} {x y : GInt} (hx : Io k x) (hy : Io l y) (hk : k + l ≤ 900000) (hN : 2 ^ 64 ≤ N) : f_exact_Mul N x y = some (I (ival x * ival y)) := by
  unfold f_exact_Mul
  have h1 := hx.nl
  have h2 := hy.nl
  have h3 := nl_mul (ival x).natAbs (ival y).natAbs
  rw [trim_val hx (by omega) hN, Option.bind_some, trim_val hy (by omega) hN, Option.bind_some, times_eq (by omega) (by omega) hN, Option.bind_some, signed_I (by omega) hN, Option.bind_some]
  congr 2
  rw [ival_abs, ival_abs]
  unfold ival
  cases x.Neg <;> cases y.Neg <;> simp [Int.neg_mul, Int.mul_neg]
theorem Add_eq {N k l : Nat} {x y : GInt} (hx : Io k x) (hy : Io l y) (hk : k ≤ 800000) (hl : l ≤ 800000) (hN : 2 ^ 64 ≤ N) : f_exact_Add N x y = some (I (ival x + ival y)) := by
  unfold f_exact_Add
  have h1 := hx.nl
  have h2 := hy.nl
  rw [trim_val hx (by omega) hN, Option.bind_some, trim_val hy (by omega) hN, Option.bind_some]
  rw [ival_abs] at *
  rw [ival_abs] at *
  have h3 := nl_add (val x.Limbs) (val y.Limbs)
  by_cases hs : x.Neg = y.Neg
  · rw [show (x.Neg == y.Neg) = true by rw [hs]; simp, cond_true, plus_eq (by omega) (by omega) hN, Option.bind_some, signed_I (by omega) hN, Option.bind_some]
    congr 2
    unfold ival
    rw [hs]
    cases y.Neg <;> simp <;> omega
  · rw [show (x.Neg == y.Neg) = false by simpa using hs, cond_false]
    obtain ⟨c, hc, hclt, hceq⟩ := compare_eq (N := N) (a := val x.Limbs) (b := val y.Limbs) (by rw [nl_eq]; omega) (by rw [nl_eq]; omega) hN
    rw [hc, Option.bind_some, cmp_geq]
    by_cases hlt : val x.Limbs < val y.Limbs
    · have h4 : nl (val y.Limbs - val x.Limbs) ≤ nl (val y.Limbs) := nl_mono (by omega)
      rw [dF (by have := hclt.2 hlt; omega), cond_false, minus_eq (by omega) (by omega) hN, Option.bind_some, signed_I (by omega) hN, Option.bind_some]
      congr 2
      unfold ival
      cases hxn : x.Neg <;> cases hyn : y.Neg <;> rw [hxn, hyn] at hs <;> simp at hs ⊢ <;> omega
    · have h4 : nl (val x.Limbs - val y.Limbs) ≤ nl (val x.Limbs) := nl_mono (by omega)
      rw [dT (by have : ¬ c < 0 := fun h => hlt (hclt.1 h); omega), cond_true, minus_eq (by omega) (by omega) hN, Option.bind_some, signed_I (by omega) hN, Option.bind_some]
      congr 2
      unfold ival
      cases hxn : x.Neg <;> cases hyn : y.Neg <;> rw [hxn, hyn] at hs <;> simp at hs ⊢ <;> omega
theorem sign_val {x : GInt} : (if (ival x).natAbs = 0 then (0 : Int) else if x.Neg then -1 else 1) = (ival x).sign := by
  rw [ival_abs]
  unfold ival
  split
  · rename_i h; rw [h]; cases x.Neg <;> simp
  · rename_i h
    cases x.Neg with
    | true => simp only [if_true]; rw [Int.sign_neg, Int.sign_eq_one_of_pos (by omega)]
    | false => simp only [Bool.false_eq_true, if_false]; rw [Int.sign_eq_one_of_pos (by omega)]
theorem sign_eq {N k : Nat} {x : GInt} (hx : Io k x) (hk : k ≤ 900000) (hN : 2 ^ 64 ≤ N) : f_exact_sign N x = some (ival x).sign := by
  unfold f_exact_sign
  rw [trim_val hx hk hN, Option.bind_some, cmp_eql, nl_eq, ← sign_val]
  by_cases h : (ival x).natAbs = 0
  · rw [h, nl_zero, if_pos rfl]; rfl
  · have := nl_pos h
    rw [dF (by omega), cond_false, if_neg h]
    cases x.Neg <;> rfl
theorem fraction_eq {N k l : Nat} {a b : GInt} (ha : Io k a) (hb : Io l b) (hk : k ≤ 400000) (hl : l ≤ 400000) (hb0 : ival b ≠ 0) (hN : 2 ^ 64 ≤ N) : f_exact_fraction N a b = some (R ((ival a : Rat) / (ival b : Rat))) := by
  unfold f_exact_fraction
  have h1 := ha.nl
  have h2 := hb.nl
  have hm0 : (ival b).natAbs ≠ 0 := by omega
  have hg0 : Nat.gcd (ival a).natAbs (ival b).natAbs ≠ 0 := fun e => hm0 (Nat.eq_zero_of_gcd_eq_zero_right e)
  have hgl : nl (Nat.gcd (ival a).natAbs (ival b).natAbs) ≤ nl (ival b).natAbs := nl_mono (Nat.gcd_le_right _ (by omega))
  have hda : nl ((ival a).natAbs / Nat.gcd (ival a).natAbs (ival b).natAbs) ≤ nl (ival a).natAbs := nl_mono (Nat.div_le_self _ _)
  have hdb : nl ((ival b).natAbs / Nat.gcd (ival a).natAbs (ival b).natAbs) ≤ nl (ival b).natAbs := nl_mono (Nat.div_le_self _ _)
  -- what it is
  have hR : R ((ival a : Rat) / (ival b : Rat)) = ⟨I (bif (!(a.Neg == b.Neg)) then -(((ival a).natAbs / Nat.gcd (ival a).natAbs (ival b).natAbs : Nat) : Int) else (((ival a).natAbs / Nat.gcd (ival a).natAbs (ival b).natAbs : Nat) : Int)), I (((ival b).natAbs / Nat.gcd (ival a).natAbs (ival b).natAbs : Nat) : Int)⟩ := by
    unfold R
    rw [← Rat.divInt_eq_div, Rat.num_divInt, Rat.den_divInt, if_neg hb0]
    have hgc : Int.gcd (ival b) (ival a) = Nat.gcd (ival a).natAbs (ival b).natAbs := by rw [Int.gcd_eq_natAbs_gcd_natAbs, Nat.gcd_comm]
    rw [hgc]
    have hdvd : ((Nat.gcd (ival a).natAbs (ival b).natAbs : Nat) : Int) ∣ ((ival a).natAbs : Int) := Int.natCast_dvd_natCast.2 (Nat.gcd_dvd_left _ _)
    congr 2
    rw [ival_abs] at *
    rw [ival_abs] at *
    generalize Nat.gcd (val a.Limbs) (val b.Limbs) = g at *
    rw [Int.natCast_ediv]
    have hbp : 0 < val b.Limbs := by omega
    unfold ival
    cases a.Neg <;> cases b.Neg <;> simp only [if_true, Bool.false_eq_true, if_false, Int.sign_neg, Int.sign_eq_one_of_pos (show (0 : Int) < (val b.Limbs : Int) by omega), Int.one_mul, Int.neg_mul, Int.neg_neg, Int.mul_neg] <;> simp [Int.neg_ediv_of_dvd hdvd]
  rw [trim_val ha (by omega) hN, Option.bind_some, trim_val hb (by omega) hN, Option.bind_some, common_eq2 (by omega) (by omega) hN, Option.bind_some, hR]
  simp only [nl_eq, cmp_neq]
  by_cases hg1 : Nat.gcd (ival a).natAbs (ival b).natAbs = 1
  · rw [hg1]
    have hl1 : limbs 1 = [1] := by rw [limbs_pos (by decide)]; simp [limbs_zero]
    have hn1 : nl 1 = 1 := by unfold nl; rw [hl1]; rfl
    rw [hn1, hl1]
    simp only [Int.natCast_one, decide_true, Bool.not_true, Bool.not_false, cond_true]
    rw [show idx [(1 : Int)] 0 = some 1 from rfl, Option.bind_some]
    simp only [decide_true, Bool.not_true, Bool.or_false, cond_false, Nat.div_one]
    rw [signed_I (by omega) hN, Option.bind_some, signed_I (by omega) hN, Option.bind_some]
    rfl
  · have hcond : ∃ z : Int, ((bif (!(!decide (((nl (Nat.gcd (ival a).natAbs (ival b).natAbs) : Nat) : Int) = 1))) then (idx (limbs (Nat.gcd (ival a).natAbs (ival b).natAbs)) 0) else some 0) = some z) ∧ ((!decide (((nl (Nat.gcd (ival a).natAbs (ival b).natAbs) : Nat) : Int) = 1)) || (!decide (z = 1))) = true := by
      by_cases h1l : nl (Nat.gcd (ival a).natAbs (ival b).natAbs) = 1
      · have hlt := nl_lt (Nat.gcd (ival a).natAbs (ival b).natAbs)
        rw [h1l] at hlt
        rw [h1l, limbs_one hg0 (by omega)]
        refine ⟨_, rfl, ?_⟩
        have : ((Nat.gcd (ival a).natAbs (ival b).natAbs : Nat) : Int) ≠ 1 := by omega
        simp [this]
      · refine ⟨0, ?_, ?_⟩
        · rw [dF (by omega)]; rfl
        · rw [dF (by omega)]; rfl
    obtain ⟨z, hz1, hz2⟩ := hcond
    rw [hz1, Option.bind_some, hz2, cond_true, divide_eq hg0 (by omega) (by omega) hN, Option.bind_some, divide_eq hg0 (by omega) (by omega) hN, Option.bind_some]
    rw [signed_I (by omega) hN, Option.bind_some, signed_I (by omega) hN, Option.bind_some]
    rfl

theorem Qf.ion {k : Nat} {x : GRat} {q : Rat} (h : Qf k x q) : Io (k / 16 + 1) x.Num := ⟨h.dn, h.ln⟩
theorem Qf.iod {k : Nat} {x : GRat} {q : Rat} (h : Qf k x q) : Io (k / 16 + 1) x.Den := ⟨h.dd, h.ld⟩
theorem below_eq {N k : Nat} {x : GRat} {q : Rat} (h : Qf k x q) (hk : k ≤ 4000000) (hN : 2 ^ 64 ≤ N) : ∃ b, f_exact_below N x = some b ∧ ival b = below x ∧ Io (k / 16 + 1) b := by
  unfold f_exact_below
  rw [sign_eq h.iod (by omega) hN, Option.bind_some, cmp_eql]
  by_cases h0 : ival x.Den = 0
  · refine ⟨⟨false, [1]⟩, ?_, ?_, ⟨dig_one (by omega) (by omega), by simp⟩⟩
    · rw [h0]; rfl
    · rw [show below x = 1 by unfold below; rw [if_pos h0]]; simp [ival, val]
  · refine ⟨x.Den, ?_, by simp [below, h0], h.iod⟩
    have : (ival x.Den).sign ≠ 0 := fun e => h0 (Int.sign_eq_zero_iff_zero.1 e)
    rw [dF this]; rfl
theorem isZero_eq {N k : Nat} {x : GRat} {q : Rat} (h : Qf k x q) (hk : k ≤ 4000000) (hN : 2 ^ 64 ≤ N) : f_exact_isZero N x = some (decide (q = 0)) := by
  unfold f_exact_isZero
  rw [sign_eq h.ion (by omega) hN, Option.bind_some, cmp_eql]
  congr 1
  rw [decide_eq_decide, Int.sign_eq_zero_iff_zero, ← h.vq]
  unfold rv
  have hb := rat_ne (below_ne x)
  constructor
  · intro e; rw [e]; simp [Rat.div_def]
  · intro e
    by_cases h0 : ival x.Num = 0
    · exact h0
    · exfalso
      have := rat_ne h0
      grind
theorem lowest_eq {N k : Nat} {x : GRat} {q : Rat} (h : Qf k x q) (hk : k ≤ 4000000) (hN : 2 ^ 64 ≤ N) : f_exact_lowest N x = some (R q) := by
  unfold f_exact_lowest
  obtain ⟨b, hb, hbv, hbo⟩ := below_eq h hk hN
  rw [hb, Option.bind_some, fraction_eq h.ion hbo (by omega) (by omega) (by rw [hbv]; exact below_ne x) hN, Option.bind_some, hbv]
  have := h.vq
  unfold rv at this
  rw [this]
theorem MulRat_eq {N k l : Nat} {x y : GRat} {p q : Rat} (hx : Qf k x p) (hy : Qf l y q) (hk : k + l ≤ 4000000) (hN : 2 ^ 64 ≤ N) : f_exact_MulRat N x y = some (R (p * q)) := by
  unfold f_exact_MulRat
  obtain ⟨b, hb, hbv, hbo⟩ := below_eq hx (by omega) hN
  obtain ⟨c, hc, hcv, hco⟩ := below_eq hy (by omega) hN
  have hn := nl_mul (ival x.Num).natAbs (ival y.Num).natAbs
  have hd := nl_mul (below x).natAbs (below y).natAbs
  have h1 := hx.ion.nl; have h2 := hy.ion.nl; have h3 := hbo.nl; have h4 := hco.nl
  rw [hbv] at h3; rw [hcv] at h4
  rw [← Int.natAbs_mul] at hn hd
  rw [Mul_eq hx.ion hy.ion (by omega) hN, Option.bind_some, hb, Option.bind_some, hc, Option.bind_some, Mul_eq hbo hco (by omega) hN, Option.bind_some, hbv, hcv]
  rw [fraction_eq (Io.I (Nat.le_refl _)) (Io.I (Nat.le_refl _)) (by omega) (by omega) (by rw [ival_I]; exact Int.mul_ne_zero (below_ne x) (below_ne y)) hN, Option.bind_some, ival_I, ival_I, ← hx.vq, ← hy.vq]
  unfold rv
  have hb1 := rat_ne (below_ne x); have hb2 := rat_ne (below_ne y)
  rw [Rat.intCast_mul, Rat.intCast_mul]
  congr 2
  grind
theorem AddRat_eq {N k l : Nat} {x y : GRat} {p q : Rat} (hx : Qf k x p) (hy : Qf l y q) (hk : k + l ≤ 4000000) (hN : 2 ^ 64 ≤ N) : f_exact_AddRat N x y = some (R (p + q)) := by
  unfold f_exact_AddRat
  rw [isZero_eq hx (by omega) hN, Option.bind_some]
  by_cases hp0 : p = 0
  · rw [dT hp0, cond_true, lowest_eq hy (by omega) hN, hp0, Rat.zero_add]; rfl
  · rw [dF hp0, cond_false, isZero_eq hy (by omega) hN, Option.bind_some]
    by_cases hq0 : q = 0
    · rw [dT hq0, cond_true, lowest_eq hx (by omega) hN, hq0, Rat.add_zero]; rfl
    · rw [dF hq0, cond_false]
      obtain ⟨b, hb, hbv, hbo⟩ := below_eq hx (by omega) hN
      obtain ⟨c, hc, hcv, hco⟩ := below_eq hy (by omega) hN
      have h1 := hx.ion.nl; have h2 := hy.ion.nl; have h3 := hbo.nl; have h4 := hco.nl
      rw [hbv] at h3; rw [hcv] at h4
      have hn1 := nl_mul (ival x.Num).natAbs (below y).natAbs
      have hn2 := nl_mul (ival y.Num).natAbs (below x).natAbs
      have hd := nl_mul (below x).natAbs (below y).natAbs
      have hn3 := nl_mono (Int.natAbs_add_le (ival x.Num * below y) (ival y.Num * below x))
      have hn4 := nl_add (ival x.Num * below y).natAbs (ival y.Num * below x).natAbs
      rw [← Int.natAbs_mul] at hn1 hn2 hd
      rw [hb, Option.bind_some, hc, Option.bind_some, Mul_eq hx.ion hco (by omega) hN, Option.bind_some, Mul_eq hy.ion hbo (by omega) hN, Option.bind_some, hbv, hcv]
      rw [Add_eq (Io.I (Nat.le_refl _)) (Io.I (Nat.le_refl _)) (by omega) (by omega) hN, Option.bind_some, Mul_eq hbo hco (by omega) hN, Option.bind_some, hbv, hcv, ival_I, ival_I]
      rw [fraction_eq (Io.I (Nat.le_refl _)) (Io.I (Nat.le_refl _)) (by omega) (by omega) (by rw [ival_I]; exact Int.mul_ne_zero (below_ne x) (below_ne y)) hN, Option.bind_some, ival_I, ival_I, ← hx.vq, ← hy.vq]
      unfold rv
      have hb1 := rat_ne (below_ne x); have hb2 := rat_ne (below_ne y)
      rw [Rat.intCast_mul, Rat.intCast_add, Rat.intCast_mul, Rat.intCast_mul]
      congr 2
      grind
theorem ival_opp (x : GInt) : ival ⟨!x.Neg, x.Limbs⟩ = -ival x := by unfold ival; cases x.Neg <;> simp
theorem negative_eq {N k : Nat} {x : GRat} {q : Rat} (h : Qf k x q) (hk : k ≤ 4000000) (hN : 2 ^ 64 ≤ N) : f_exact_negative N x = some (R (-q)) := by
  unfold f_exact_negative f_exact_opposite
  obtain ⟨b, hb, hbv, hbo⟩ := below_eq h hk hN
  have hio : Io (k / 16 + 1) (⟨!x.Num.Neg, x.Num.Limbs⟩ : GInt) := ⟨h.dn, h.ln⟩
  rw [Option.bind_some, hb, Option.bind_some, fraction_eq hio hbo (by omega) (by omega) (by rw [hbv]; exact below_ne x) hN, Option.bind_some, hbv, ival_opp, ← h.vq]
  unfold rv
  rw [Rat.intCast_neg]
  congr 2
  grind
theorem SubRat_eq {N k l : Nat} {x y : GRat} {p q : Rat} (hx : Qf k x p) (hy : Qf l y q) (hk : k + l + 17 ≤ 4000000) (hN : 2 ^ 64 ≤ N) : f_exact_SubRat N x y = some (R (p - q)) := by
  unfold f_exact_SubRat
  rw [negative_eq hy (by omega) hN, Option.bind_some, AddRat_eq hx (Qf.R hy.sz.neg) (by omega) hN, Option.bind_some, Rat.sub_eq_add_neg]
/- the order of fractions as a number -/
def sgnQ (q : Rat) : Int := if q < 0 then -1 else if q = 0 then 0 else 1
def cmpQ (p q : Rat) : Int := sgnQ (p - q)
theorem sgnQ_num (q : Rat) : q.num.sign = sgnQ q := by
  unfold sgnQ
  have h1 := Rat.num_nonneg (q := q)
  have h2 := Rat.num_eq_zero (q := q)
  split
  · rename_i h
    have h3 : ¬ 0 ≤ q := by rw [Rat.not_le]; exact h
    have : q.num < 0 := by rw [← h1] at h3; omega
    exact Int.sign_eq_neg_one_of_neg this
  · rename_i h
    rw [Rat.not_lt] at h
    have h3 := h1.2 h
    split
    · rename_i h0; rw [h0]; rfl
    · rename_i h0
      have : q.num ≠ 0 := fun e => h0 (h2.1 e)
      exact Int.sign_eq_one_of_pos (by omega)
theorem signOf_R {N k : Nat} {q : Rat} (h : Sz k q) (hk : k ≤ 4000000) (hN : 2 ^ 64 ≤ N) : f_exact_signOf N (R q) = some (sgnQ q) := by
  unfold f_exact_signOf
  have hf := Qf.R h
  obtain ⟨b, hb, hbv, hbo⟩ := below_eq hf hk hN
  rw [sign_eq hf.ion (by omega) hN, Option.bind_some, hb, Option.bind_some, sign_eq hbo (by omega) hN, Option.bind_some, hbv]
  have h1 : below (R q) = q.den := by unfold below R; simp only [ival_I, if_neg (den_ne q)]
  have h2 : ival (R q).Num = q.num := ival_I _
  have h3 : ((q.den : Nat) : Int).sign = 1 := Int.sign_eq_one_of_pos (by have := q.den_pos; omega)
  rw [h1, h2, h3, Int.mul_one, sgnQ_num]
  unfold sgnQ
  congr 1
  split
  · rfl
  · split <;> rfl
theorem CmpRat_eq {N k l : Nat} {x y : GRat} {p q : Rat} (hx : Qf k x p) (hy : Qf l y q) (hk : k + l + 34 ≤ 4000000) (hN : 2 ^ 64 ≤ N) : f_exact_CmpRat N x y = some (cmpQ p q) := by
  unfold f_exact_CmpRat cmpQ
  rw [SubRat_eq hx hy (by omega) hN, Option.bind_some, signOf_R (hx.sz.sub hy.sz) (by omega) hN]
  rfl
/- machine integers -/
theorem Of_I {N : Nat} {z : Int} (h0 : -9223372036854775808 ≤ z) (h1 : z ≤ 9223372036854775807) (hN : 2 ^ 64 ≤ N) : f_exact_Of N z = some (I z) := by
  unfold f_exact_Of
  have hl : nl z.natAbs ≤ 4 := nl_le (by omega)
  rw [cmp_lss]
  by_cases hz : z < 0
  · have e : IntKind.u64.wrap (0 - IntKind.u64.wrap z) = ((z.natAbs : Nat) : Int) := by
      rw [IntKind.wrap_u64, IntKind.wrap_u64]; omega
    rw [dT hz, cond_true, e, natural_eq (by omega) (by omega), Option.bind_some, signed_I (by omega) hN, Option.bind_some]
    congr 2; simp; omega
  · have e : IntKind.u64.wrap z = ((z.natAbs : Nat) : Int) := by rw [IntKind.wrap_u64]; omega
    rw [dF hz, cond_false, e, natural_eq (by omega) (by omega), Option.bind_some, signed_I (by omega) hN, Option.bind_some]
    congr 2; simp; omega
theorem io_int {z : Int} (h0 : -9223372036854775808 ≤ z) (h1 : z ≤ 9223372036854775807) : Io 4 (I z) := Io.I (nl_le (by omega))
theorem Ratio_eq {N : Nat} {a b : Int} (ha0 : -9223372036854775808 ≤ a) (ha1 : a ≤ 9223372036854775807) (hb0 : -9223372036854775808 ≤ b) (hb1 : b ≤ 9223372036854775807) (hb : b ≠ 0) (hN : 2 ^ 64 ≤ N) : f_exact_Ratio N a b = some (R ((a : Rat) / (b : Rat)), 0) := by
  unfold f_exact_Ratio
  rw [cmp_eql, dF hb, cond_false, Of_I ha0 ha1 hN, Option.bind_some, Of_I hb0 hb1 hN, Option.bind_some, fraction_eq (io_int ha0 ha1) (io_int hb0 hb1) (by omega) (by omega) (by rw [ival_I]; exact hb) hN, Option.bind_some, ival_I, ival_I]
theorem Sz.i64 {z : Int} (h0 : -9223372036854775808 ≤ z) (h1 : z ≤ 9223372036854775807) : Sz 64 (z : Rat) := Sz.int (by omega)
end Go.KB
