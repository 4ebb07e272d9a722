/- Plain laws: integers and fractions as values; their sizes. No condition. -/
import Derived.Test.YtcpcedbnpieebaaPExW
namespace Go.KB
set_option linter.unusedVariables false

/- the value of an integer; the integer of a value -/
def ival (x : GInt) : Int := if x.Neg then -(val x.Limbs : Int) else (val x.Limbs : Int)
def I (z : Int) : GInt := ⟨decide (z < 0), limbs z.natAbs⟩
theorem gint_I {s : Bool} {n : Nat} : gint s n = I (bif s then -(n : Int) else (n : Int)) := by
  unfold gint I
  cases s with
  | false => simp
  | true =>
    simp only [cond_true, Bool.true_and, Int.natAbs_neg, Int.natAbs_natCast, GInt.mk.injEq, and_true]
    rw [decide_eq_decide]; omega
theorem ival_I (z : Int) : ival (I z) = z := by
  unfold ival I
  simp only [val_limbs, decide_eq_true_eq]
  split <;> omega
theorem ival_abs (x : GInt) : (ival x).natAbs = val x.Limbs := by unfold ival; split <;> omega
theorem I_neg {z : Int} (h : z ≠ 0) : (I z).Neg = decide (z < 0) := rfl
theorem I_inj {a b : Int} (h : I a = I b) : a = b := by rw [← ival_I a, ← ival_I b, h]

/- sizes -/
def Sz (k : Nat) (q : Rat) : Prop := q.num.natAbs + q.den ≤ 2 ^ k
theorem Sz.mono {k l : Nat} {q : Rat} (h : Sz k q) (hl : k ≤ l) : Sz l q := Nat.le_trans h (Nat.pow_le_pow_right (by decide) hl)
theorem Sz.of {k : Nat} {a b : Int} (hb : b ≠ 0) (h : a.natAbs + b.natAbs ≤ 2 ^ k) : Sz k ((a : Rat) / (b : Rat)) := by
  unfold Sz
  rw [← Rat.divInt_eq_div, Rat.num_divInt, Rat.den_divInt, if_neg hb]
  have hg : 0 < Int.gcd b a := Int.gcd_pos_of_ne_zero_left _ hb
  have h1 : (b.sign * a / (Int.gcd b a : Int)).natAbs ≤ a.natAbs := by
    have hd : ((Int.gcd b a : Nat) : Int) ∣ b.sign * a := Int.dvd_mul_of_dvd_right (Int.gcd_dvd_right ..)
    rw [Int.natAbs_ediv_of_dvd hd, Int.natAbs_natCast, Int.natAbs_mul]
    have : b.sign.natAbs = 1 := by rw [Int.natAbs_sign_of_ne_zero hb]
    rw [this, Nat.one_mul]
    exact Nat.div_le_self _ _
  have h2 : b.natAbs / Int.gcd b a ≤ b.natAbs := Nat.div_le_self _ _
  omega
theorem Sz.one_le {k : Nat} {q : Rat} (h : Sz k q) : 1 ≤ 2 ^ k := Nat.one_le_two_pow
theorem sz_mul_le {a b c d k l : Nat} (h1 : a + b ≤ 2 ^ k) (h2 : c + d ≤ 2 ^ l) : a * c + b * d + (a * d + b * c) ≤ 2 ^ (k + l) := by
  have := Nat.mul_le_mul h1 h2
  rw [← Nat.pow_add] at this
  have e : (a + b) * (c + d) = a * c + b * d + (a * d + b * c) := by grind
  omega
theorem rat_eq (q : Rat) : q = (q.num : Rat) / ((q.den : Int) : Rat) := by rw [← Rat.divInt_eq_div]; exact (Rat.num_divInt_den q).symm
theorem den_ne (q : Rat) : (q.den : Int) ≠ 0 := by have := q.den_pos; omega
theorem rat_ne {n : Int} (h : n ≠ 0) : (n : Rat) ≠ 0 := fun e => h (by exact_mod_cast e)
theorem Sz.mul {k l : Nat} {p q : Rat} (hp : Sz k p) (hq : Sz l q) : Sz (k + l) (p * q) := by
  have e : p * q = ((p.num * q.num : Int) : Rat) / ((p.den * q.den : Int) : Rat) := by
    conv => lhs; rw [rat_eq p, rat_eq q]
    have h1 := rat_ne (den_ne p); have h2 := rat_ne (den_ne q)
    rw [Rat.intCast_mul, Rat.intCast_mul]
    grind
  rw [e]
  refine Sz.of (Int.mul_ne_zero (den_ne p) (den_ne q)) ?_
  rw [Int.natAbs_mul, Int.natAbs_mul, Int.natAbs_natCast, Int.natAbs_natCast]
  have := sz_mul_le hp hq
  omega
theorem Sz.add {k l : Nat} {p q : Rat} (hp : Sz k p) (hq : Sz l q) : Sz (k + l) (p + q) := by
  have e : p + q = ((p.num * q.den + q.num * p.den : Int) : Rat) / ((p.den * q.den : Int) : Rat) := by
    conv => lhs; rw [rat_eq p, rat_eq q]
    have h1 := rat_ne (den_ne p); have h2 := rat_ne (den_ne q)
    rw [Rat.intCast_mul, Rat.intCast_add, Rat.intCast_mul, Rat.intCast_mul]
    grind
  rw [e]
  refine Sz.of (Int.mul_ne_zero (den_ne p) (den_ne q)) ?_
  have h1 := Int.natAbs_add_le (p.num * q.den) (q.num * p.den)
  rw [Int.natAbs_mul, Int.natAbs_mul, Int.natAbs_natCast, Int.natAbs_natCast] at h1
  rw [Int.natAbs_mul, Int.natAbs_natCast, Int.natAbs_natCast]
  have h2 := sz_mul_le hp hq
  have h3 := Nat.mul_comm q.num.natAbs p.den
  omega
theorem Sz.neg {k : Nat} {p : Rat} (hp : Sz k p) : Sz k (-p) := by unfold Sz; rw [Rat.neg_num, Rat.neg_den, Int.natAbs_neg]; exact hp
theorem Sz.sub {k l : Nat} {p q : Rat} (hp : Sz k p) (hq : Sz l q) : Sz (k + l) (p - q) := by rw [Rat.sub_eq_add_neg]; exact hp.add hq.neg
theorem Sz.int {k : Nat} {n : Int} (h : n.natAbs < 2 ^ k) : Sz k (n : Rat) := by unfold Sz; rw [Rat.num_intCast, Rat.den_intCast]; omega
theorem Sz.zero : Sz 0 0 := by unfold Sz; simp
theorem Sz.div {k l : Nat} {p q : Rat} (hp : Sz k p) (hq : Sz l q) : Sz (k + l) (p / q) := by
  by_cases h0 : q = 0
  · subst h0
    have e : p / 0 = 0 := by grind
    rw [e]; exact Sz.zero.mono (Nat.zero_le _)
  · have hn : q.num ≠ 0 := fun e => h0 (Rat.num_eq_zero.1 e)
    have e : p / q = ((p.num * q.den : Int) : Rat) / ((p.den * q.num : Int) : Rat) := by
      conv => lhs; rw [rat_eq p, rat_eq q]
      have h1 := rat_ne (den_ne p); have h2 := rat_ne (den_ne q); have h3 := rat_ne hn
      rw [Rat.intCast_mul, Rat.intCast_mul]
      grind
    rw [e]
    refine Sz.of (Int.mul_ne_zero (den_ne p) hn) ?_
    rw [Int.natAbs_mul, Int.natAbs_mul, Int.natAbs_natCast, Int.natAbs_natCast]
    have := sz_mul_le hp hq
    omega
theorem nl_pow {n k : Nat} (h : n ≤ 2 ^ k) : nl n ≤ k / 16 + 1 := by
  refine nl_le ?_
  rw [show (65536 : Nat) = 2 ^ 16 from rfl, ← Nat.pow_mul]
  exact Nat.lt_of_le_of_lt h (Nat.pow_lt_pow_right (by decide) (by omega))

/- fractions -/
def R (q : Rat) : GRat := ⟨I q.num, I (q.den : Int)⟩
def below (x : GRat) : Int := if ival x.Den = 0 then 1 else ival x.Den
def rv (x : GRat) : Rat := (ival x.Num : Rat) / (below x : Rat)
theorem below_ne (x : GRat) : below x ≠ 0 := by unfold below; split <;> omega
theorem rv_R (q : Rat) : rv (R q) = q := by
  unfold rv below R
  simp only [ival_I, if_neg (den_ne q)]
  exact (rat_eq q).symm
theorem R_inj {p q : Rat} (h : R p = R q) : p = q := by rw [← rv_R p, ← rv_R q, h]
/- x is a fraction of the value q and of a size of at most k bits -/
structure Qf (k : Nat) (x : GRat) (q : Rat) : Prop where
  dn : Dig x.Num.Limbs
  dd : Dig x.Den.Limbs
  ln : x.Num.Limbs.length ≤ k / 16 + 1
  ld : x.Den.Limbs.length ≤ k / 16 + 1
  vq : rv x = q
theorem Qf.R {k : Nat} {q : Rat} (h : Sz k q) : Qf k (KB.R q) q := by
  refine ⟨dig_limbs _, dig_limbs _, nl_pow ?_, nl_pow ?_, rv_R q⟩
  · unfold Sz at h; omega
  · unfold Sz at h; rw [Int.natAbs_natCast]; omega
theorem Qf.mono {k l : Nat} {x : GRat} {q : Rat} (h : Qf k x q) (hl : k ≤ l) : Qf l x q := ⟨h.dn, h.dd, by have := h.ln; omega, by have := h.ld; omega, h.vq⟩
theorem gI16 {n : Int} (h : gI .u16 n) : 0 ≤ n ∧ n < 65536 := by
  obtain ⟨a, b⟩ := h
  have e1 : IntKind.u16.min = 0 := by decide
  have e2 : IntKind.u16.max = 65535 := by decide
  omega
theorem Qf.raw {k : Nat} {x : GRat} (h : x.ok) (h1 : x.Num.Limbs.length ≤ k / 16 + 1) (h2 : x.Den.Limbs.length ≤ k / 16 + 1) : Qf k x (rv x) := by
  obtain ⟨⟨_, ⟨_, h3⟩, _⟩, ⟨_, ⟨_, h4⟩, _⟩, _⟩ := h
  exact ⟨fun d hd => gI16 (h3 d hd), fun d hd => gI16 (h4 d hd), h1, h2, rfl⟩
theorem val_le_pow {k : Nat} {l : List Int} (hd : Dig l) (hl : l.length ≤ k / 16 + 1) : val l < 2 ^ (k + 16) := by
  have := val_lt hd
  refine Nat.lt_of_lt_of_le this ?_
  rw [show (65536 : Nat) = 2 ^ 16 from rfl, ← Nat.pow_mul]
  exact Nat.pow_le_pow_right (by decide) (by omega)
theorem Qf.sz {k : Nat} {x : GRat} {q : Rat} (h : Qf k x q) : Sz (k + 17) q := by
  rw [← h.vq]
  refine Sz.of (below_ne x) ?_
  have h1 := val_le_pow h.dn h.ln
  have h2 := val_le_pow h.dd h.ld
  have h3 := ival_abs x.Num
  have h4 : (below x).natAbs ≤ 2 ^ (k + 16) := by
    unfold below
    have := ival_abs x.Den
    split
    · exact Nat.one_le_two_pow
    · omega
  have : 2 ^ (k + 17) = 2 * 2 ^ (k + 16) := by rw [← Nat.pow_succ']
  omega
end Go.KB
