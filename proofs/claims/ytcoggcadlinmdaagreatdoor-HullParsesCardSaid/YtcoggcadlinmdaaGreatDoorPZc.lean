/- Plain laws of the exact package: sums, differences and products of natural numbers. Plain laws of the exact package: products of natural numbers. Plain laws of the exact package: one digit of a quotient. Plain laws of the exact package: quotient and remainder of natural numbers. Plain laws of the exact package: quotient, remainder, greatest common divisor of natural numbers. Plain laws: integers and fractions as values; their sizes. Plain laws of the exact package: integers and fractions. No condition. -/
import Derived.Test.YtcoggcadlinmdaaGreatDoorPZa
namespace Go.KB
set_option linter.unusedVariables false
end Go.KB
namespace Go.KB
set_option linter.unusedVariables false
end Go.KB
namespace Go.KB
set_option linter.unusedVariables false
theorem and64i {k : Nat} (h : k < 18446744073709551616) : jKb .and .u64 (k : Int) 65535 = ((k % 65536 : Nat) : Int) := by
 unfold jKb
 simp only []
 have e : (BitVec.ofInt IntKind.u64.bits (k : Int) &&& BitVec.ofInt IntKind.u64.bits (65535 : Int)).toNat = k % 65536 := by
  rw [BitVec.ofInt_natCast, BitVec.toNat_and, BitVec.toNat_ofNat]
  show k % 2 ^ 64 &&& 65535 = _
  rw [Nat.mod_eq_of_lt (by omega)]
  exact Nat.and_two_pow_sub_one_eq_mod k 16
 rw [e, u64n (by omega)]
theorem quo64 {a b : Nat} (hb : b ≠ 0) (ha : a < 18446744073709551616) : qYf .u64 (a : Int) (b : Int) = some ((a / b : Nat) : Int) := by
 unfold qYf
 have := Nat.div_le_self a b
 rw [if_neg (by omega), ← Int.ofNat_tdiv, u64n (by omega)]
end Go.KB
namespace Go.KB
set_option linter.unusedVariables false
end Go.KB
namespace Go.KB
set_option linter.unusedVariables false
end Go.KB
namespace Go.KB
set_option linter.unusedVariables false
def qUs (x : jXv) : Int := if x.Neg then -(val x.Limbs : Int) else (val x.Limbs : Int)
def I (z : Int) : jXv := ⟨decide (z < 0), limbs z.natAbs⟩
theorem ival_I (z : Int) : qUs (I z) = z := by
 unfold qUs I
 simp only [jSf, decide_eq_true_eq]
 split <;> omega
theorem jCq (x : jXv) : (qUs x).natAbs = val x.Limbs := by unfold qUs; split <;> omega
def Sz (k : Nat) (q : Rat) : Prop := q.num.natAbs + q.den ≤ 2 ^ k
theorem Sz.mono {k l : Nat} {q : Rat} (h : Sz k q) (hl : k ≤ l) : Sz l q := Nat.le_trans h (Nat.pow_le_pow_right (by decide) hl)
theorem Sz.of {k : Nat} {a b : Int} (hb : b ≠ 0) (h : a.natAbs + b.natAbs ≤ 2 ^ k) : Sz k ((a : Rat) / (b : Rat)) := by
 unfold Sz
 rw [← Rat.divInt_eq_div, Rat.num_divInt, Rat.den_divInt, if_neg hb]
 have hg : 0 < Int.gcd b a := Int.gcd_pos_of_ne_zero_left _ hb
 have h1 : (b.sign * a / (Int.gcd b a : Int)).natAbs ≤ a.natAbs := by
  have hd : ((Int.gcd b a : Nat) : Int) ∣ b.sign * a := Int.dvd_mul_of_dvd_right (Int.gcd_dvd_right ..)
  rw [Int.natAbs_ediv_of_dvd hd, Int.natAbs_natCast, Int.natAbs_mul]
  have : b.sign.natAbs = 1 := by rw [Int.natAbs_sign_of_ne_zero hb]
  rw [this, Nat.one_mul]
  exact Nat.div_le_self _ _
 have h2 : b.natAbs / Int.gcd b a ≤ b.natAbs := Nat.div_le_self _ _
 omega
theorem qJz {a b c d k l : Nat} (h1 : a + b ≤ 2 ^ k) (h2 : c + d ≤ 2 ^ l) : a * c + b * d + (a * d + b * c) ≤ 2 ^ (k + l) := by
 have := Nat.mul_le_mul h1 h2
 rw [← Nat.pow_add] at this
 have e : (a + b) * (c + d) = a * c + b * d + (a * d + b * c) := by grind
 omega
theorem jAd (q : Rat) : q = (q.num : Rat) / ((q.den : Int) : Rat) := by rw [← Rat.divInt_eq_div]; exact (Rat.num_divInt_den q).symm
theorem jNz (q : Rat) : (q.den : Int) ≠ 0 := by have := q.den_pos; omega
theorem qQe {n : Int} (h : n ≠ 0) : (n : Rat) ≠ 0 := fun e => h (by exact_mod_cast e)
theorem Sz.mul {k l : Nat} {p q : Rat} (hp : Sz k p) (hq : Sz l q) : Sz (k + l) (p * q) := by
 have e : p * q = ((p.num * q.num : Int) : Rat) / ((p.den * q.den : Int) : Rat) := by
  conv => lhs; rw [jAd p, jAd q]
  have h1 := qQe (jNz p); have h2 := qQe (jNz q)
  rw [Rat.intCast_mul, Rat.intCast_mul]
  grind
 rw [e]
 refine Sz.of (Int.mul_ne_zero (jNz p) (jNz q)) ?_
 rw [Int.natAbs_mul, Int.natAbs_mul, Int.natAbs_natCast, Int.natAbs_natCast]
 have := qJz hp hq
 omega
theorem Sz.add {k l : Nat} {p q : Rat} (hp : Sz k p) (hq : Sz l q) : Sz (k + l) (p + q) := by
 have e : p + q = ((p.num * q.den + q.num * p.den : Int) : Rat) / ((p.den * q.den : Int) : Rat) := by
  conv => lhs; rw [jAd p, jAd q]
  have h1 := qQe (jNz p); have h2 := qQe (jNz q)
  rw [Rat.intCast_mul, Rat.intCast_add, Rat.intCast_mul, Rat.intCast_mul]
  grind
 rw [e]
 refine Sz.of (Int.mul_ne_zero (jNz p) (jNz q)) ?_
 have h1 := Int.natAbs_add_le (p.num * q.den) (q.num * p.den)
 rw [Int.natAbs_mul, Int.natAbs_mul, Int.natAbs_natCast, Int.natAbs_natCast] at h1
 rw [Int.natAbs_mul, Int.natAbs_natCast, Int.natAbs_natCast]
 have h2 := qJz hp hq
 have h3 := Nat.mul_comm q.num.natAbs p.den
 omega
theorem Sz.neg {k : Nat} {p : Rat} (hp : Sz k p) : Sz k (-p) := by unfold Sz; rw [Rat.neg_num, Rat.neg_den, Int.natAbs_neg]; exact hp
theorem Sz.sub {k l : Nat} {p q : Rat} (hp : Sz k p) (hq : Sz l q) : Sz (k + l) (p - q) := by rw [Rat.sub_eq_add_neg]; exact hp.add hq.neg
theorem Sz.int {k : Nat} {n : Int} (h : n.natAbs < 2 ^ k) : Sz k (n : Rat) := by unfold Sz; rw [Rat.num_intCast, Rat.den_intCast]; omega
theorem Sz.zero : Sz 0 0 := by unfold Sz; simp
theorem qUm {n k : Nat} (h : n ≤ 2 ^ k) : nl n ≤ k / 16 + 1 := by
 refine qYc ?_
 rw [show (65536 : Nat) = 2 ^ 16 from rfl, ← Nat.pow_mul]
 exact Nat.lt_of_le_of_lt h (Nat.pow_lt_pow_right (by decide) (by omega))
def R (q : Rat) : jQe := ⟨I q.num, I (q.den : Int)⟩
def below (x : jQe) : Int := if qUs x.Den = 0 then 1 else qUs x.Den
def rv (x : jQe) : Rat := (qUs x.Num : Rat) / (below x : Rat)
theorem qY5 (x : jQe) : below x ≠ 0 := by unfold below; split <;> omega
theorem rv_R (q : Rat) : rv (R q) = q := by
 unfold rv below R
 simp only [ival_I, if_neg (jNz q)]
 exact (jAd q).symm
structure Qf (k : Nat) (x : jQe) (q : Rat) : Prop where
 dn : Dig x.Num.Limbs
 dd : Dig x.Den.Limbs
 ln : x.Num.Limbs.length ≤ k / 16 + 1
 ld : x.Den.Limbs.length ≤ k / 16 + 1
 vq : rv x = q
theorem Qf.R {k : Nat} {q : Rat} (h : Sz k q) : Qf k (KB.R q) q := by
 refine ⟨jNj _, jNj _, qUm ?_, qUm ?_, rv_R q⟩
 ·unfold Sz at h; omega
 ·unfold Sz at h; rw [Int.natAbs_natCast]; omega
theorem Qf.mono {k l : Nat} {x : jQe} {q : Rat} (h : Qf k x q) (hl : k ≤ l) : Qf l x q := ⟨h.dn, h.dd, by have := h.ln; omega, by have := h.ld; omega, h.vq⟩
theorem jT0 {k : Nat} {l : List Int} (hd : Dig l) (hl : l.length ≤ k / 16 + 1) : val l < 2 ^ (k + 16) := by
 have := qUr hd
 refine Nat.lt_of_lt_of_le this ?_
 rw [show (65536 : Nat) = 2 ^ 16 from rfl, ← Nat.pow_mul]
 exact Nat.pow_le_pow_right (by decide) (by omega)
theorem Qf.sz {k : Nat} {x : jQe} {q : Rat} (h : Qf k x q) : Sz (k + 17) q := by
 rw [← h.vq]
 refine Sz.of (qY5 x) ?_
 have h1 := jT0 h.dn h.ln
 have h2 := jT0 h.dd h.ld
 have h3 := jCq x.Num
 have h4 : (below x).natAbs ≤ 2 ^ (k + 16) := by
  unfold below
  have := jCq x.Den
  split
  ·exact Nat.one_le_two_pow
  ·omega
 have : 2 ^ (k + 17) = 2 * 2 ^ (k + 16) := by rw [← Nat.pow_succ']
 omega
end Go.KB
namespace Go.KB
set_option linter.unusedVariables false
structure Io (k : Nat) (x : jXv) : Prop where
 dl : Dig x.Limbs
 ll : x.Limbs.length ≤ k
theorem nlv {l : List Int} (h : Dig l) : nl (val l) ≤ l.length := qYc (qUr h)
theorem Io.I {k : Nat} {z : Int} (h : nl z.natAbs ≤ k) : Io k (KB.I z) := ⟨jNj _, h⟩
theorem Io.nl {k : Nat} {x : jXv} (h : Io k x) : nl (qUs x).natAbs ≤ k := by rw [jCq]; exact Nat.le_trans (nlv h.dl) h.ll
theorem Sz.i64 {z : Int} (h0 : -9223372036854775808 ≤ z) (h1 : z ≤ 9223372036854775807) : Sz 64 (z : Rat) := Sz.int (by omega)
end Go.KB
