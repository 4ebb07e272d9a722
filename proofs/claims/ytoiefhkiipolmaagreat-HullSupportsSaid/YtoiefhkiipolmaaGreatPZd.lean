/- Plain laws of the base package: integers and fractions, comparisons. Plain laws: the numbers of the hull package: whole numbers, products, quotients, masses. No condition. -/
import Derived.Test.YtoiefhkiipolmaaGreatPZc
import Derived.Test.YtoiefhkiipolmaaGreatPZa
namespace Go.KB
set_option linter.unusedVariables false
theorem qZy {N n : Nat} (h : n < 18446744073709551616) (hN : 2 ^ 64 ≤ N) : jHz N (n : Int) = some (limbs n) := by
 unfold jHz
 rw [jH0 (fun s => ∃ k : Nat, s.1 = (k : Int) ∧ k ≤ n ∧ s.2 ++ limbs k = limbs n) (fun s => s.1.toNat) (limbs n) ?_ N _ ⟨n, rfl, Nat.le_refl _, by simp⟩ (by simp only []; omega)]
 ·rfl
 ·rintro ⟨s, acc⟩ ⟨k, hs, hk, hl⟩
  simp only at hs hl; subst hs
  unfold jHp
  simp only [jVd]
  by_cases h0 : k = 0
  ·subst h0
   refine .inr ?_
   rw [jZn, List.append_nil] at hl
   rw [hl]; rfl
  ·have hlen := congrArg List.length hl
   have : nl n ≤ 4 := jSy (by omega)
   rw [List.length_append, jW4, jW4] at hlen
   rw [dT (by omega), cnT, qHq (by omega), u16n, Nat.mod_mod, jK7 (by simp; unfold lim; omega), bS, shr16 (by decide), bS]
   refine .inl ⟨_, rfl, ⟨k / 65536, rfl, by omega, ?_⟩, by simp only []; omega⟩
   rw [← hl, jYz h0]; simp
theorem Z_I {N : Nat} {z : Int} (h0 : -9223372036854775808 ≤ z) (h1 : z ≤ 9223372036854775807) (hN : 2 ^ 64 ≤ N) : jBc N z = some (I z) := by
  unfold jBc
  rw [jQk]
  by_cases hz : z < 0
  · have e : IntKind.u64.wrap (IntKind.u64.wrap (IntKind.i64.wrap (0 - IntKind.i64.wrap (z + 1))) + 1) = ((z.natAbs : Nat) : Int) := by
      rw [jG5 (n := z + 1) (by omega) (by omega), jG5 (by omega) (by omega), qVd (n := 0 - (z + 1)) (by omega) (by omega), qVd (by omega) (by omega)]; omega
    rw [dT hz, cnT, e, qZy (by omega) hN, bS]
    unfold I; rw [dT hz]
  · have e : IntKind.u64.wrap z = ((z.natAbs : Nat) : Int) := by rw [qVd (by omega) (by omega)]; omega
    rw [dF hz, cnF, e, qZy (by omega) hN, bS]
    unfold I; rw [dF hz]
theorem W_R {N : Nat} {z : Int} (h0 : -9223372036854775808 ≤ z) (h1 : z ≤ 9223372036854775807) (hN : 2 ^ 64 ≤ N) : jKy N z = some (R (z : Rat)) := by
 unfold jKy
 rw [Z_I h0 h1 hN, bS, Z_I (by omega) (by omega) hN, bS]
 unfold R; rw [Rat.num_intCast, Rat.den_intCast]; rfl
theorem Q_R {N : Nat} {a b : Int} (ha0 : -9223372036854775807 ≤ a) (ha1 : a ≤ 9223372036854775807) (hb0 : -9223372036854775807 ≤ b) (hb1 : b ≤ 9223372036854775807) (hb : b ≠ 0) (hN : 2 ^ 64 ≤ N) : jNg N a b = some (R ((a : Rat) / (b : Rat))) := by
  -- the denominator is positive
  have key : ∀ {a b : Int}, -9223372036854775807 ≤ a → a ≤ 9223372036854775807 → 0 < b → b ≤ 9223372036854775807 → (((bif (jJj .lss a 0) then (some (IntKind.i64.wrap (0 - a))) else (some a)) : Option Int).bind fun o5 => (jQ1 (jBb N) N (o5, b)).bind fun o10 => (jS4 .i64 a o10).bind fun v12 => (jBc N v12).bind fun v13 => (jS4 .i64 b o10).bind fun v14 => (jBc N v14).bind fun v15 => some (⟨v13, v15⟩ : jQv)) = some (R ((a : Rat) / (b : Rat))) := by
    intro a b ha0 ha1 hb0 hb1
    have e1 : ((bif (jJj .lss a 0) then (some (IntKind.i64.wrap (0 - a))) else (some a)) : Option Int) = some ((a.natAbs : Nat) : Int) := by
      rw [jQk]
      by_cases h : a < 0
      · rw [dT h, cnT, jG5 (by omega) (by omega)]; congr 1; omega
      · rw [dF h, cnF]; congr 1; omega
    have e2 : b = ((b.natAbs : Nat) : Int) := by omega
    have hbn : b.natAbs ≠ 0 := by omega
    have hg0 : Nat.gcd a.natAbs b.natAbs ≠ 0 := fun e => hbn (Nat.eq_zero_of_gcd_eq_zero_right e)
    have hgl : Nat.gcd a.natAbs b.natAbs ≤ b.natAbs := Nat.gcd_le_right _ (by omega)
    rw [e1, bS]
    have hgl2 : jQ1 (jBb N) N (((a.natAbs : Nat) : Int), b) = some ((Nat.gcd a.natAbs b.natAbs : Nat) : Int) := by
      conv => lhs; rw [e2]
      exact qZa (jBb N) (fun s => rfl) (by omega)
    rw [hgl2]
    rw [bS]
    have hd1 : ((Nat.gcd a.natAbs b.natAbs : Nat) : Int) ∣ a := Int.ofNat_dvd_left.2 (Nat.gcd_dvd_left _ _)
    have hd2 : ((Nat.gcd a.natAbs b.natAbs : Nat) : Int) ∣ b := Int.ofNat_dvd_left.2 (Nat.gcd_dvd_right _ _)
    have hgc : Int.gcd b a = Nat.gcd a.natAbs b.natAbs := by rw [Int.gcd_eq_natAbs_gcd_natAbs, Nat.gcd_comm]
    have b1 : (a / ((Nat.gcd a.natAbs b.natAbs : Nat) : Int)).natAbs ≤ a.natAbs := by rw [Int.natAbs_ediv_of_dvd hd1, Int.natAbs_natCast]; exact Nat.div_le_self _ _
    have b2 : (b / ((Nat.gcd a.natAbs b.natAbs : Nat) : Int)).natAbs ≤ b.natAbs := by rw [Int.natAbs_ediv_of_dvd hd2, Int.natAbs_natCast]; exact Nat.div_le_self _ _
    have hq1 : jS4 .i64 a ((Nat.gcd a.natAbs b.natAbs : Nat) : Int) = some (a / ((Nat.gcd a.natAbs b.natAbs : Nat) : Int)) := by
      unfold jS4
      rw [if_neg (by omega), Int.tdiv_eq_ediv_of_dvd hd1, jG5 (by omega) (by omega)]
    have hq2 : jS4 .i64 b ((Nat.gcd a.natAbs b.natAbs : Nat) : Int) = some (b / ((Nat.gcd a.natAbs b.natAbs : Nat) : Int)) := by
      unfold jS4
      rw [if_neg (by omega), Int.tdiv_eq_ediv_of_dvd hd2, jG5 (by omega) (by omega)]
    rw [hq1, bS, Z_I (by omega) (by omega) hN, bS, hq2, bS, Z_I (by omega) (by omega) hN, bS]
    unfold R
    rw [← Rat.divInt_eq_div, Rat.num_divInt, Rat.den_divInt, if_neg (by omega), hgc, Int.sign_eq_one_of_pos hb0, Int.one_mul, Int.natCast_ediv]
    congr 4
  unfold jNg
  rw [jQk]
  by_cases hneg : b < 0
  · rw [dT hneg, cnT, bS, jG5 (n := 0 - a) (by omega) (by omega), jG5 (n := 0 - b) (by omega) (by omega)]
    refine (key (a := 0 - a) (b := 0 - b) (by omega) (by omega) (by omega) (by omega)).trans ?_
    rw [Rat.intCast_sub, Rat.intCast_sub]
    congr 2
    have hb' := jUw hb
    grind
  · rw [dF hneg, cnF, bS]
    exact key ha0 ha1 (by omega) hb1

def qVz (x y : jQr) : Bool := (x.Neg == y.Neg) && decide (x.Limbs = y.Limbs)
def qYm (x y : jQv) : Bool := qVz x.Num y.Num && qVz x.Den y.Den
theorem jCd {α O : Type} [DecidableEq α] {a b : List α} {N : Nat} {f : Int → Option (Int ⊕ (Unit ⊕ Bool))} (hlen : a.length = b.length) (hl : a.length < 9223372036854775807) (hN : a.length < N)
  (hf : ∀ i : Nat, (ha : i < a.length) → (hb : i < b.length) → f (i : Int) = if a[i] = b[i] then some (.inl ((i + 1 : Nat) : Int)) else some (.inr (.inr false))) (he : f (a.length : Int) = some (.inr (.inl ()))) :
  ((jQ1 f N 0).bind fun o6 => Sum.elim (fun l8 => some true) (fun r9 => some r9) o6) = some (decide (a = b)) := by
 by_cases hab : a = b
 ·subst hab
  rw [jPv a.length (.inl ()) (fun _ => True) (fun i hi _ => .inl ⟨by rw [hf i hi hi, if_pos rfl], trivial⟩) (fun _ => he) trivial N hN]
  simp
 ·rw [jPv a.length (.inr false) (fun i => a.take i = b.take i) (fun i hi hp => by
   have hb : i < b.length := by omega
   rw [hf i hi hb]
   by_cases h : a[i] = b[i]
   ·rw [if_pos h]
    refine .inl ⟨rfl, ?_⟩
    rw [List.take_succ_eq_append_getElem hi, List.take_succ_eq_append_getElem hb, hp, h]
   ·rw [if_neg h]; exact .inr rfl) (fun hp => absurd (by rw [List.take_length, hlen, List.take_length] at hp; exact hp) hab) rfl N hN]
  simp [hab]
theorem jCa {N : Nat} {x y : jQr} (hx : x.Limbs.length < 9223372036854775807) (hN : x.Limbs.length < N) : jUf N x y = some (qVz x y) := by
  unfold jUf qVz
  simp only [jVw]
  by_cases hs : x.Neg = y.Neg
  · by_cases hl : x.Limbs.length = y.Limbs.length
    · rw [hs, hl, dT rfl]
      simp only [beq_self_eq_true, Bool.not_true, Bool.or_false, cnF, Bool.true_and]
      refine jCd (O := Unit) hl hx hN (fun i ha hb => ?_) ?_
      · unfold jKl
        simp only [jQk, jVw]
        rw [dT (by omega), cnT, jBl ha, bS, jBl hb, bS, jLn (by omega)]
        by_cases h : x.Limbs[i] = y.Limbs[i]
        · rw [dT h, if_pos h]; rfl
        · rw [dF h, if_neg h]; rfl
      · unfold jKl
        simp only [jQk]
        rw [dF (by omega)]; rfl
    · rw [dF (show ¬ ((x.Limbs.length : Int) = (y.Limbs.length : Int)) by omega)]
      rw [dF (show ¬ x.Limbs = y.Limbs from fun h => hl (by rw [h]))]
      simp
  · rw [show (x.Neg == y.Neg) = false by simpa using hs]; simp
theorem qV0 {N : Nat} {x y : jQv} (h1 : x.Num.Limbs.length < 1000000) (h2 : x.Den.Limbs.length < 1000000) (hN : 2 ^ 64 ≤ N) : jX7 N x y = some (qYm x y) := by
 unfold jX7 qYm
 rw [jCa (by omega) (by omega), bS]
 cases qVz x.Num y.Num with
 | false => rfl
 | true => rw [cnT, jCa (by omega) (by omega)]; rfl
theorem qKu {x y : jQv} : qYm x y = true ↔ x = y := by
 unfold qYm qVz
 simp only [Bool.and_eq_true, beq_iff_eq, decide_eq_true_eq]
 constructor
 ·rintro ⟨⟨h1, h2⟩, h3, h4⟩
  obtain ⟨⟨a, b⟩, ⟨c, d⟩⟩ := x; obtain ⟨⟨a', b'⟩, ⟨c', d'⟩⟩ := y
  simp only at h1 h2 h3 h4
  subst h1; subst h2; subst h3; subst h4; rfl
 ·rintro rfl; exact ⟨⟨rfl, rfl⟩, rfl, rfl⟩
theorem qBd {p q : Rat} : qYm (R p) (R q) = decide (p = q) := by
 rw [Bool.eq_iff_iff, qKu, decide_eq_true_eq]
 exact ⟨R_inj, fun h => by rw [h]⟩
theorem R_len {k : Nat} {q : Rat} (h : Sz k q) (hk : k ≤ 4000000) : (R q).Num.Limbs.length < 1000000 ∧ (R q).Den.Limbs.length < 1000000 := by
 have h1 := (Qf.R h).ln
 have h2 := (Qf.R h).ld
 omega
theorem jS0 {N k : Nat} {p q : Rat} (h : Sz k p) (hk : k ≤ 4000000) (hN : 2 ^ 64 ≤ N) : jX7 N (R p) (R q) = some (decide (p = q)) := by
 obtain ⟨h1, h2⟩ := R_len h hk
 rw [qV0 h1 h2 hN, qBd]
def jNd : jQv := ⟨⟨false, []⟩, ⟨false, []⟩⟩
theorem qKd (p q : Rat) : decide (qUs p q < 0) = decide (p < q) := by
 unfold qUs qX2
 rw [decide_eq_decide]
 split
 ·grind
 ·split <;> grind
theorem qBv (p q : Rat) : decide (0 ≤ qUs p q) = decide (q ≤ p) := by
 unfold qUs qX2
 rw [decide_eq_decide]
 split
 ·grind
 ·split <;> grind
theorem qHs (p q : Rat) : decide (qUs p q ≤ 0) = decide (p ≤ q) := by
 unfold qUs qX2
 rw [decide_eq_decide]
 split
 ·grind
 ·split <;> grind
end Go.KB
namespace Go.KB
set_option linter.unusedVariables false
theorem qUm {N k : Nat} {x : jQr} (hx : Io k x) (hk : k ≤ 400000) (hN : 2 ^ 64 ≤ N) : jGw N x = some (R (jZl x : Rat)) := by
 unfold jGw
 rw [jBz hx (show Io 1 (⟨false, [1]⟩ : jQr) from ⟨jM9 (by omega) (by omega), by simp⟩) hk (by omega) (by simp [jZl, val]) hN, bS]
 rw [show jZl (⟨false, [1]⟩ : jQr) = 1 by simp [jZl, val]]
 congr 2
 grind
theorem jWw {N : Nat} {z : Int} (h0 : -9223372036854775808 ≤ z) (h1 : z ≤ 9223372036854775807) (hN : 2 ^ 64 ≤ N) : jJ8 N z = some (R (z : Rat)) := by
 unfold jJ8
 rw [Of_I h0 h1 hN, bS, qUm (io_int h0 h1) (by omega) hN, jYm]; rfl
theorem qWw {N k l : Nat} {x y : jQv} {p q : Rat} (hx : Qf k x p) (hy : Qf l y q) (hk : k + l ≤ 4000000) (hq0 : q ≠ 0) (hN : 2 ^ 64 ≤ N) : jB9 N x y = some (R (p / q)) := by
 unfold jB9
 obtain ⟨b, hb, hbv, hbo⟩ := jDr hx (by omega) hN
 obtain ⟨c, hc, hcv, hco⟩ := jDr hy (by omega) hN
 have hn := jB1 (jZl x.Num).natAbs (below y).natAbs
 have hd := jB1 (below x).natAbs (jZl y.Num).natAbs
 have h1 := hx.ion.nl; have h2 := hy.ion.nl; have h3 := hbo.nl; have h4 := hco.nl
 rw [hbv] at h3; rw [hcv] at h4
 rw [← Int.natAbs_mul] at hn hd
 have hy0 : jZl y.Num ≠ 0 := fun e => hq0 (by rw [← hy.vq]; unfold rv; rw [e]; simp [Rat.div_def])
 rw [hc, bS, jS9 hx.ion hco (by omega) hN, bS, hb, bS, jS9 hbo hy.ion (by omega) hN, bS, hbv, hcv]
 rw [jBz (Io.I (Nat.le_refl _)) (Io.I (Nat.le_refl _)) (by omega) (by omega) (by rw [jYm]; exact Int.mul_ne_zero (jK2 x) hy0) hN, bS, jYm, jYm, ← hx.vq, ← hy.vq]
 unfold rv
 have hb1 := jUw (jK2 x); have hb2 := jUw (jK2 y); have hb3 := jUw hy0
 rw [Rat.intCast_mul, Rat.intCast_mul]
 congr 2
 grind
theorem qW0 {N k l : Nat} {x y : jQv} {p q : Rat} (hx : Qf k x p) (hy : Qf l y q) (hk : k + l ≤ 4000000) (hq0 : q ≠ 0) (hN : 2 ^ 64 ≤ N) : jG4 N x y = some (R (p / q), 0) := by
 unfold jG4
 rw [jT5 hy (by omega) hN, bS, dF hq0, cnF, qWw hx hy hk hq0 hN]; rfl
theorem jMm {N k l : Nat} {x y : jQv} {p q : Rat} (hx : Qf k x p) (hy : Qf l y q) (hk : k + l ≤ 4000000) (hq0 : q ≠ 0) (hN : 2 ^ 64 ≤ N) : jZ5 N x y = some (R (p / q)) := by
 unfold jZ5
 rw [qW0 hx hy hk hq0 hN]; rfl
theorem Sz.one : Sz 1 1 := by unfold Sz; decide
theorem jRm {N K : Nat} {l : List jQv} {q : Nat → Rat} (hl : l.length ≤ 1000) (hq : ∀ i (h : i < l.length), Qf K l[i] (q i)) (hs : ∀ i (h : i < l.length), Sz K (q i)) (hK : K * (l.length + 1) + 1 ≤ 4000000) (hN : 2 ^ 64 ≤ N) :
  jXn N l = some (R ((List.range l.length).foldl (fun p i => p * q i) 1)) := by
 unfold jXn
 rw [jWw (by omega) (by omega) hN, bS]
 have hsz : ∀ i, i ≤ l.length → Sz (K * i + 1) ((List.range i).foldl (fun p i => p * q i) 1) := by
  intro i
  induction i with
  | zero => intro _; exact Sz.one
  | succ i ih =>
   intro hi
   rw [List.range_succ, List.foldl_append]
   exact ((ih (by omega)).mul (hs i (by omega))).mono (by rw [Nat.mul_succ]; omega)
 have := jNy (f := jKr N l) l.length (fun i => R ((List.range i).foldl (fun p i => p * q i) 1)) (R ((List.range l.length).foldl (fun p i => p * q i) 1)) (fun i hi => by
  unfold jKr
  simp only [jQk]
  have h1 : K * i ≤ K * l.length := Nat.mul_le_mul_left K (by omega)
  have h2 : K * (l.length + 1) = K * l.length + K := Nat.mul_succ _ _
  rw [dT (by omega), cnT, jBl hi, bS, jTt (Qf.R (hsz i (by omega))) (hq i hi) (by omega) hN, bS, jLn (by omega), List.range_succ, List.foldl_append]; rfl) (by
  unfold jKr
  simp only [jQk]
  rw [dF (by omega)]; rfl) N (by omega)
 rw [show R ((1 : Int) : Rat) = R ((List.range 0).foldl (fun p i => p * q i) 1) from rfl, this]; rfl
theorem jAj {N k l : Nat} {x y : jQv} {p q : Rat} (hx : Qf k x p) (hy : Qf l y q) (h1 : Sz k p) (h2 : Sz l q) (hk : 3 * (k + l) + 1 ≤ 4000000) (hN : 2 ^ 64 ≤ N) : jXn N [x, y] = some (R (p * q)) := by
 rw [jRm (N := N) (K := k + l) (l := [x, y]) (q := fun i => if i = 0 then p else q) (by simp) (fun i h => by
  match i, h with
  | 0, _ => exact hx.mono (by omega)
  | 1, _ => exact hy.mono (by omega)
  | n + 2, h => simp at h; omega) (fun i h => by
  match i, h with
  | 0, _ => exact h1.mono (by omega)
  | 1, _ => exact h2.mono (by omega)
  | n + 2, h => simp at h; omega) (by simp; omega) hN]
 congr 2
 show 1 * p * q = p * q
 grind
theorem qZl {N k l m : Nat} {x y z : jQv} {p q r : Rat} (hx : Qf k x p) (hy : Qf l y q) (hz : Qf m z r) (h1 : Sz k p) (h2 : Sz l q) (h3 : Sz m r) (hk : 4 * (k + l + m) + 1 ≤ 4000000) (hN : 2 ^ 64 ≤ N) : jXn N [x, y, z] = some (R (p * q * r)) := by
 rw [jRm (N := N) (K := k + l + m) (l := [x, y, z]) (q := fun i => if i = 0 then p else if i = 1 then q else r) (by simp) (fun i h => by
  match i, h with
  | 0, _ => exact hx.mono (by omega)
  | 1, _ => exact hy.mono (by omega)
  | 2, _ => exact hz.mono (by omega)
  | n + 3, h => simp at h; omega) (fun i h => by
  match i, h with
  | 0, _ => exact h1.mono (by omega)
  | 1, _ => exact h2.mono (by omega)
  | 2, _ => exact h3.mono (by omega)
  | n + 3, h => simp at h; omega) (by simp; omega) hN]
 congr 2
 show 1 * p * q * r = p * q * r
 grind
theorem times5 {N k : Nat} {x y z : jQv} {p q r : Rat} (hx : Qf k x p) (hy : Qf k y q) (hz : Qf k z r) (h1 : Sz k p) (h2 : Sz k q) (h3 : Sz k r) (hk : 6 * k + 1 ≤ 4000000) (hN : 2 ^ 64 ≤ N) : jXn N [x, y, y, y, z] = some (R (p * q * q * q * r)) := by
 rw [jRm (N := N) (K := k) (l := [x, y, y, y, z]) (q := fun i => if i = 0 then p else if i < 4 then q else r) (by simp) (fun i h => by
  match i, h with
  | 0, _ => exact hx
  | 1, _ => exact hy
  | 2, _ => exact hy
  | 3, _ => exact hy
  | 4, _ => exact hz
  | n + 5, h => simp at h; omega) (fun i h => by
  match i, h with
  | 0, _ => exact h1
  | 1, _ => exact h2
  | 2, _ => exact h2
  | 3, _ => exact h2
  | 4, _ => exact h3
  | n + 5, h => simp at h; omega) (by simp; omega) hN]
 congr 2
 show 1 * p * q * q * q * r = p * q * q * q * r
 grind
theorem jCt {N k : Nat} {x : jQv} {q : Rat} (h : Qf k x q) (hk : k ≤ 3000000) (hN : 2 ^ 64 ≤ N) : jGy N x = some (decide (q = 0)) := by
 unfold jGy
 rw [jWw (by omega) (by omega) hN, bS, jM0 h (Qf.R (k := 64) (Sz.i64 (by omega) (by omega))) (by omega) hN, bS, jU9]
 congr 1
 rw [decide_eq_decide]
 unfold qUs qX2
 constructor
 ·intro e
  by_cases h1 : q - ((0 : Int) : Rat) < 0
  ·rw [if_pos h1] at e; cases e
  ·rw [if_neg h1] at e
   by_cases h2 : q - ((0 : Int) : Rat) = 0
   ·grind
   ·rw [if_neg h2] at e; cases e
 ·rintro rfl
  rw [if_neg (by grind), if_pos (by grind)]
def kgQ (q : Rat) (d : Int) : Rat := q * (d : Rat) / ((1000000000 : Int) : Rat)
theorem qY6 {N k : Nat} {x : jQv} {q : Rat} {d : Int} (h : Qf k x q) (hs : Sz k q) (hk : k ≤ 400000) (h0 : -9223372036854775808 ≤ d) (h1 : d ≤ 9223372036854775807) (hN : 2 ^ 64 ≤ N) : jHq N x d = some (R (kgQ q d)) := by
 unfold jHq kgQ
 have hd := Sz.i64 h0 h1
 rw [jWw h0 h1 hN, bS, jAj h (Qf.R hd) hs hd (by omega) hN, bS, jWw (by omega) (by omega) hN, bS, jMm (Qf.R (hs.mul hd)) (Qf.R (k := 64) (Sz.i64 (by omega) (by omega))) (by omega) (by exact jUw (by omega)) hN]; rfl
def ySet (a b : Rat) (x : Int) : Rat := a + b * (x : Rat)
theorem qG7 {N k : Nat} {a : GAttitude} {p q : Rat} {x : Int} (h1 : Qf k a.Sink p) (h2 : Qf k a.Slope q) (hk : k ≤ 100000) (g0 : -9223372036854775808 ≤ x) (g1 : x ≤ 9223372036854775807) (hN : 2 ^ 64 ≤ N) : jYr N a x = some (R (ySet p q x)) := by
 unfold jYr ySet
 have hd := Sz.i64 g0 g1
 rw [jWw g0 g1 hN, bS, jTt h2 (Qf.R hd) (by omega) hN, bS, jYg h1 (Qf.R (h2.sz.mul hd)) (by omega) hN]; rfl
theorem ySz {k : Nat} {a : GAttitude} {p q : Rat} {x : Int} (h1 : Qf k a.Sink p) (h2 : Qf k a.Slope q) (g0 : -9223372036854775808 ≤ x) (g1 : x ≤ 9223372036854775807) : Sz (2 * k + 98) (ySet p q x) :=
 (h1.sz.add (h2.sz.mul (Sz.i64 g0 g1))).mono (by omega)
end Go.KB
