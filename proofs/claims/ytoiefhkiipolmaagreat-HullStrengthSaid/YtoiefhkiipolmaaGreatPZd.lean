/- Plain laws of the base package: integers and fractions, comparisons. Plain laws: the numbers of the hull package: whole numbers, products, quotients, masses. No condition. -/
import Derived.Test.YtoiefhkiipolmaaGreatPZc
import Derived.Test.YtoiefhkiipolmaaGreatPZa
namespace Go.KB
set_option linter.unusedVariables false
theorem qVk {N n : Nat} (h : n < 18446744073709551616) (hN : 2 ^ 64 ≤ N) : jH0 N (n : Int) = some (limbs n) := by
 unfold jH0
 rw [jH8 (fun s => ∃ k : Nat, s.1 = (k : Int) ∧ k ≤ n ∧ s.2 ++ limbs k = limbs n) (fun s => s.1.toNat) (limbs n) ?_ N _ ⟨n, rfl, Nat.le_refl _, by simp⟩ (by simp only []; omega)]
 ·rfl
 ·rintro ⟨s, acc⟩ ⟨k, hs, hk, hl⟩
  simp only at hs hl; subst hs
  unfold jBk
  simp only [jVm]
  by_cases h0 : k = 0
  ·subst h0
   refine .inr ?_
   rw [jZ0, List.append_nil] at hl
   rw [hl]; rfl
  ·have hlen := congrArg List.length hl
   have : nl n ≤ 4 := jCg (by omega)
   rw [List.length_append, jYj, jYj] at hlen
   rw [dT (by omega), cnT, qH7 (by omega), u16n, Nat.mod_mod, jK8 (by simp; unfold lim; omega), bS, shr16 (by decide), bS]
   refine .inl ⟨_, rfl, ⟨k / 65536, rfl, by omega, ?_⟩, by simp only []; omega⟩
   rw [← hl, jYv h0]; simp
theorem Z_I {N : Nat} {z : Int} (h0 : -9223372036854775808 ≤ z) (h1 : z ≤ 9223372036854775807) (hN : 2 ^ 64 ≤ N) : jDz N z = some (I z) := by
  unfold jDz
  rw [jQy]
  by_cases hz : z < 0
  · have e : IntKind.u64.wrap (IntKind.u64.wrap (IntKind.i64.wrap (0 - IntKind.i64.wrap (z + 1))) + 1) = ((z.natAbs : Nat) : Int) := by
      rw [jHv (n := z + 1) (by omega) (by omega), jHv (by omega) (by omega), qW2 (n := 0 - (z + 1)) (by omega) (by omega), qW2 (by omega) (by omega)]; omega
    rw [dT hz, cnT, e, qVk (by omega) hN, bS]
    unfold I; rw [dT hz]
  · have e : IntKind.u64.wrap z = ((z.natAbs : Nat) : Int) := by rw [qW2 (by omega) (by omega)]; omega
    rw [dF hz, cnF, e, qVk (by omega) hN, bS]
    unfold I; rw [dF hz]
theorem W_R {N : Nat} {z : Int} (h0 : -9223372036854775808 ≤ z) (h1 : z ≤ 9223372036854775807) (hN : 2 ^ 64 ≤ N) : jZw N z = some (R (z : Rat)) := by
 unfold jZw
 rw [Z_I h0 h1 hN, bS, Z_I (by omega) (by omega) hN, bS]
 unfold R; rw [Rat.num_intCast, Rat.den_intCast]; rfl
theorem Q_R {N : Nat} {a b : Int} (ha0 : -9223372036854775807 ≤ a) (ha1 : a ≤ 9223372036854775807) (hb0 : -9223372036854775807 ≤ b) (hb1 : b ≤ 9223372036854775807) (hb : b ≠ 0) (hN : 2 ^ 64 ≤ N) : jF2 N a b = some (R ((a : Rat) / (b : Rat))) := by
  -- the denominator is positive
  have key : ∀ {a b : Int}, -9223372036854775807 ≤ a → a ≤ 9223372036854775807 → 0 < b → b ≤ 9223372036854775807 → (((bif (jJj .lss a 0) then (some (IntKind.i64.wrap (0 - a))) else (some a)) : Option Int).bind fun o5 => (jQ7 (jB7 N) N (o5, b)).bind fun o10 => (jT4 .i64 a o10).bind fun v12 => (jDz N v12).bind fun v13 => (jT4 .i64 b o10).bind fun v14 => (jDz N v14).bind fun v15 => some (⟨v13, v15⟩ : jQv)) = some (R ((a : Rat) / (b : Rat))) := by
    intro a b ha0 ha1 hb0 hb1
    have e1 : ((bif (jJj .lss a 0) then (some (IntKind.i64.wrap (0 - a))) else (some a)) : Option Int) = some ((a.natAbs : Nat) : Int) := by
      rw [jQy]
      by_cases h : a < 0
      · rw [dT h, cnT, jHv (by omega) (by omega)]; congr 1; omega
      · rw [dF h, cnF]; congr 1; omega
    have e2 : b = ((b.natAbs : Nat) : Int) := by omega
    have hbn : b.natAbs ≠ 0 := by omega
    have hg0 : Nat.gcd a.natAbs b.natAbs ≠ 0 := fun e => hbn (Nat.eq_zero_of_gcd_eq_zero_right e)
    have hgl : Nat.gcd a.natAbs b.natAbs ≤ b.natAbs := Nat.gcd_le_right _ (by omega)
    rw [e1, bS]
    have hgl2 : jQ7 (jB7 N) N (((a.natAbs : Nat) : Int), b) = some ((Nat.gcd a.natAbs b.natAbs : Nat) : Int) := by
      conv => lhs; rw [e2]
      exact qVj (jB7 N) (fun s => rfl) (by omega)
    rw [hgl2]
    rw [bS]
    have hd1 : ((Nat.gcd a.natAbs b.natAbs : Nat) : Int) ∣ a := Int.ofNat_dvd_left.2 (Nat.gcd_dvd_left _ _)
    have hd2 : ((Nat.gcd a.natAbs b.natAbs : Nat) : Int) ∣ b := Int.ofNat_dvd_left.2 (Nat.gcd_dvd_right _ _)
    have hgc : Int.gcd b a = Nat.gcd a.natAbs b.natAbs := by rw [Int.gcd_eq_natAbs_gcd_natAbs, Nat.gcd_comm]
    have b1 : (a / ((Nat.gcd a.natAbs b.natAbs : Nat) : Int)).natAbs ≤ a.natAbs := by rw [Int.natAbs_ediv_of_dvd hd1, Int.natAbs_natCast]; exact Nat.div_le_self _ _
    have b2 : (b / ((Nat.gcd a.natAbs b.natAbs : Nat) : Int)).natAbs ≤ b.natAbs := by rw [Int.natAbs_ediv_of_dvd hd2, Int.natAbs_natCast]; exact Nat.div_le_self _ _
    have hq1 : jT4 .i64 a ((Nat.gcd a.natAbs b.natAbs : Nat) : Int) = some (a / ((Nat.gcd a.natAbs b.natAbs : Nat) : Int)) := by
      unfold jT4
      rw [if_neg (by omega), Int.tdiv_eq_ediv_of_dvd hd1, jHv (by omega) (by omega)]
    have hq2 : jT4 .i64 b ((Nat.gcd a.natAbs b.natAbs : Nat) : Int) = some (b / ((Nat.gcd a.natAbs b.natAbs : Nat) : Int)) := by
      unfold jT4
      rw [if_neg (by omega), Int.tdiv_eq_ediv_of_dvd hd2, jHv (by omega) (by omega)]
    rw [hq1, bS, Z_I (by omega) (by omega) hN, bS, hq2, bS, Z_I (by omega) (by omega) hN, bS]
    unfold R
    rw [← Rat.divInt_eq_div, Rat.num_divInt, Rat.den_divInt, if_neg (by omega), hgc, Int.sign_eq_one_of_pos hb0, Int.one_mul, Int.natCast_ediv]
    congr 4
  unfold jF2
  rw [jQy]
  by_cases hneg : b < 0
  · rw [dT hneg, cnT, bS, jHv (n := 0 - a) (by omega) (by omega), jHv (n := 0 - b) (by omega) (by omega)]
    refine (key (a := 0 - a) (b := 0 - b) (by omega) (by omega) (by omega) (by omega)).trans ?_
    rw [Rat.intCast_sub, Rat.intCast_sub]
    congr 2
    have hb' := jY8 hb
    grind
  · rw [dF hneg, cnF, bS]
    exact key ha0 ha1 (by omega) hb1

def qWr (x y : jQn) : Bool := (x.Neg == y.Neg) && decide (x.Limbs = y.Limbs)
def qY1 (x y : jQv) : Bool := qWr x.Num y.Num && qWr x.Den y.Den
theorem jAk {α O : Type} [DecidableEq α] {a b : List α} {N : Nat} {f : Int → Option (Int ⊕ (Unit ⊕ Bool))} (hlen : a.length = b.length) (hl : a.length < 9223372036854775807) (hN : a.length < N)
  (hf : ∀ i : Nat, (ha : i < a.length) → (hb : i < b.length) → f (i : Int) = if a[i] = b[i] then some (.inl ((i + 1 : Nat) : Int)) else some (.inr (.inr false))) (he : f (a.length : Int) = some (.inr (.inl ()))) :
  ((jQ7 f N 0).bind fun o6 => Sum.elim (fun l8 => some true) (fun r9 => some r9) o6) = some (decide (a = b)) := by
 by_cases hab : a = b
 ·subst hab
  rw [jPr a.length (.inl ()) (fun _ => True) (fun i hi _ => .inl ⟨by rw [hf i hi hi, if_pos rfl], trivial⟩) (fun _ => he) trivial N hN]
  simp
 ·rw [jPr a.length (.inr false) (fun i => a.take i = b.take i) (fun i hi hp => by
   have hb : i < b.length := by omega
   rw [hf i hi hb]
   by_cases h : a[i] = b[i]
   ·rw [if_pos h]
    refine .inl ⟨rfl, ?_⟩
    rw [List.take_succ_eq_append_getElem hi, List.take_succ_eq_append_getElem hb, hp, h]
   ·rw [if_neg h]; exact .inr rfl) (fun hp => absurd (by rw [List.take_length, hlen, List.take_length] at hp; exact hp) hab) rfl N hN]
  simp [hab]
theorem jAb {N : Nat} {x y : jQn} (hx : x.Limbs.length < 9223372036854775807) (hN : x.Limbs.length < N) : jUc N x y = some (qWr x y) := by
  unfold jUc qWr
  simp only [jV4]
  by_cases hs : x.Neg = y.Neg
  · by_cases hl : x.Limbs.length = y.Limbs.length
    · rw [hs, hl, dT rfl]
      simp only [beq_self_eq_true, Bool.not_true, Bool.or_false, cnF, Bool.true_and]
      refine jAk (O := Unit) hl hx hN (fun i ha hb => ?_) ?_
      · unfold jKn
        simp only [jQy, jV4]
        rw [dT (by omega), cnT, jH1 ha, bS, jH1 hb, bS, jLn (by omega)]
        by_cases h : x.Limbs[i] = y.Limbs[i]
        · rw [dT h, if_pos h]; rfl
        · rw [dF h, if_neg h]; rfl
      · unfold jKn
        simp only [jQy]
        rw [dF (by omega)]; rfl
    · rw [dF (show ¬ ((x.Limbs.length : Int) = (y.Limbs.length : Int)) by omega)]
      rw [dF (show ¬ x.Limbs = y.Limbs from fun h => hl (by rw [h]))]
      simp
  · rw [show (x.Neg == y.Neg) = false by simpa using hs]; simp
theorem qWp {N : Nat} {x y : jQv} (h1 : x.Num.Limbs.length < 1000000) (h2 : x.Den.Limbs.length < 1000000) (hN : 2 ^ 64 ≤ N) : jX1 N x y = some (qY1 x y) := by
 unfold jX1 qY1
 rw [jAb (by omega) (by omega), bS]
 cases qWr x.Num y.Num with
 | false => rfl
 | true => rw [cnT, jAb (by omega) (by omega)]; rfl
theorem qK3 {x y : jQv} : qY1 x y = true ↔ x = y := by
 unfold qY1 qWr
 simp only [Bool.and_eq_true, beq_iff_eq, decide_eq_true_eq]
 constructor
 ·rintro ⟨⟨h1, h2⟩, h3, h4⟩
  obtain ⟨⟨a, b⟩, ⟨c, d⟩⟩ := x; obtain ⟨⟨a', b'⟩, ⟨c', d'⟩⟩ := y
  simp only at h1 h2 h3 h4
  subst h1; subst h2; subst h3; subst h4; rfl
 ·rintro rfl; exact ⟨⟨rfl, rfl⟩, rfl, rfl⟩
theorem qB0 {p q : Rat} : qY1 (R p) (R q) = decide (p = q) := by
 rw [Bool.eq_iff_iff, qK3, decide_eq_true_eq]
 exact ⟨R_inj, fun h => by rw [h]⟩
theorem R_len {k : Nat} {q : Rat} (h : Sz k q) (hk : k ≤ 4000000) : (R q).Num.Limbs.length < 1000000 ∧ (R q).Den.Limbs.length < 1000000 := by
 have h1 := (Qf.R h).ln
 have h2 := (Qf.R h).ld
 omega
theorem jBm {N k : Nat} {p q : Rat} (h : Sz k p) (hk : k ≤ 4000000) (hN : 2 ^ 64 ≤ N) : jX1 N (R p) (R q) = some (decide (p = q)) := by
 obtain ⟨h1, h2⟩ := R_len h hk
 rw [qWp h1 h2 hN, qB0]
def jGe : jQv := ⟨⟨false, []⟩, ⟨false, []⟩⟩
theorem qDn (p q : Rat) : decide (qBw p q < 0) = decide (p < q) := by
 unfold qBw qU5
 rw [decide_eq_decide]
 split
 ·grind
 ·split <;> grind
theorem qU2 (p q : Rat) : decide (qBw p q ≤ 0) = decide (p ≤ q) := by
 unfold qBw qU5
 rw [decide_eq_decide]
 split
 ·grind
 ·split <;> grind
end Go.KB
namespace Go.KB
set_option linter.unusedVariables false
theorem qGv {N k : Nat} {x : jQn} (hx : Io k x) (hk : k ≤ 400000) (hN : 2 ^ 64 ≤ N) : jBb N x = some (R (jZl x : Rat)) := by
 unfold jBb
 rw [jDq hx (show Io 1 (⟨false, [1]⟩ : jQn) from ⟨jM6 (by omega) (by omega), by simp⟩) hk (by omega) (by simp [jZl, val]) hN, bS]
 rw [show jZl (⟨false, [1]⟩ : jQn) = 1 by simp [jZl, val]]
 congr 2
 grind
theorem jUj {N : Nat} {z : Int} (h0 : -9223372036854775808 ≤ z) (h1 : z ≤ 9223372036854775807) (hN : 2 ^ 64 ≤ N) : jJ8 N z = some (R (z : Rat)) := by
 unfold jJ8
 rw [Of_I h0 h1 hN, bS, qGv (io_int h0 h1) (by omega) hN, jWl]; rfl
theorem qY4 {N k l : Nat} {x y : jQv} {p q : Rat} (hx : Qf k x p) (hy : Qf l y q) (hk : k + l ≤ 4000000) (hq0 : q ≠ 0) (hN : 2 ^ 64 ≤ N) : jDh N x y = some (R (p / q)) := by
 unfold jDh
 obtain ⟨b, hb, hbv, hbo⟩ := jFz hx (by omega) hN
 obtain ⟨c, hc, hcv, hco⟩ := jFz hy (by omega) hN
 have hn := jBq (jZl x.Num).natAbs (below y).natAbs
 have hd := jBq (below x).natAbs (jZl y.Num).natAbs
 have h1 := hx.ion.nl; have h2 := hy.ion.nl; have h3 := hbo.nl; have h4 := hco.nl
 rw [hbv] at h3; rw [hcv] at h4
 rw [← Int.natAbs_mul] at hn hd
 have hy0 : jZl y.Num ≠ 0 := fun e => hq0 (by rw [← hy.vq]; unfold rv; rw [e]; simp [Rat.div_def])
 rw [hc, bS, jCa hx.ion hco (by omega) hN, bS, hb, bS, jCa hbo hy.ion (by omega) hN, bS, hbv, hcv]
 rw [jDq (Io.I (Nat.le_refl _)) (Io.I (Nat.le_refl _)) (by omega) (by omega) (by rw [jWl]; exact Int.mul_ne_zero (jUw x) hy0) hN, bS, jWl, jWl, ← hx.vq, ← hy.vq]
 unfold rv
 have hb1 := jY8 (jUw x); have hb2 := jY8 (jUw y); have hb3 := jY8 hy0
 rw [Rat.intCast_mul, Rat.intCast_mul]
 congr 2
 grind
theorem qKh {N k l : Nat} {x y : jQv} {p q : Rat} (hx : Qf k x p) (hy : Qf l y q) (hk : k + l ≤ 4000000) (hq0 : q ≠ 0) (hN : 2 ^ 64 ≤ N) : jG0 N x y = some (R (p / q), 0) := by
 unfold jG0
 rw [jTh hy (by omega) hN, bS, dF hq0, cnF, qY4 hx hy hk hq0 hN]; rfl
theorem qZj {N k l : Nat} {x y : jQv} {p q : Rat} (hx : Qf k x p) (hy : Qf l y q) (hk : k + l ≤ 4000000) (hq0 : q ≠ 0) (hN : 2 ^ 64 ≤ N) : jZ2 N x y = some (R (p / q)) := by
 unfold jZ2
 rw [qKh hx hy hk hq0 hN]; rfl
theorem Sz.one : Sz 1 1 := by unfold Sz; decide
theorem qWg {N K : Nat} {l : List jQv} {q : Nat → Rat} (hl : l.length ≤ 1000) (hq : ∀ i (h : i < l.length), Qf K l[i] (q i)) (hs : ∀ i (h : i < l.length), Sz K (q i)) (hK : K * (l.length + 1) + 1 ≤ 4000000) (hN : 2 ^ 64 ≤ N) :
  jXm N l = some (R ((List.range l.length).foldl (fun p i => p * q i) 1)) := by
 unfold jXm
 rw [jUj (by omega) (by omega) hN, bS]
 have hsz : ∀ i, i ≤ l.length → Sz (K * i + 1) ((List.range i).foldl (fun p i => p * q i) 1) := by
  intro i
  induction i with
  | zero => intro _; exact Sz.one
  | succ i ih =>
   intro hi
   rw [List.range_succ, List.foldl_append]
   exact ((ih (by omega)).mul (hs i (by omega))).mono (by rw [Nat.mul_succ]; omega)
 have := jLc (f := jKr N l) l.length (fun i => R ((List.range i).foldl (fun p i => p * q i) 1)) (R ((List.range l.length).foldl (fun p i => p * q i) 1)) (fun i hi => by
  unfold jKr
  simp only [jQy]
  have h1 : K * i ≤ K * l.length := Nat.mul_le_mul_left K (by omega)
  have h2 : K * (l.length + 1) = K * l.length + K := Nat.mul_succ _ _
  rw [dT (by omega), cnT, jH1 hi, bS, qXq (Qf.R (hsz i (by omega))) (hq i hi) (by omega) hN, bS, jLn (by omega), List.range_succ, List.foldl_append]; rfl) (by
  unfold jKr
  simp only [jQy]
  rw [dF (by omega)]; rfl) N (by omega)
 rw [show R ((1 : Int) : Rat) = R ((List.range 0).foldl (fun p i => p * q i) 1) from rfl, this]; rfl
theorem jA2 {N k l : Nat} {x y : jQv} {p q : Rat} (hx : Qf k x p) (hy : Qf l y q) (h1 : Sz k p) (h2 : Sz l q) (hk : 3 * (k + l) + 1 ≤ 4000000) (hN : 2 ^ 64 ≤ N) : jXm N [x, y] = some (R (p * q)) := by
 rw [qWg (N := N) (K := k + l) (l := [x, y]) (q := fun i => if i = 0 then p else q) (by simp) (fun i h => by
  match i, h with
  | 0, _ => exact hx.mono (by omega)
  | 1, _ => exact hy.mono (by omega)
  | n + 2, h => simp at h; omega) (fun i h => by
  match i, h with
  | 0, _ => exact h1.mono (by omega)
  | 1, _ => exact h2.mono (by omega)
  | n + 2, h => simp at h; omega) (by simp; omega) hN]
 congr 2
 show 1 * p * q = p * q
 grind
def kgQ (q : Rat) (d : Int) : Rat := q * (d : Rat) / ((1000000000 : Int) : Rat)
theorem qD4 {N k : Nat} {x : jQv} {q : Rat} {d : Int} (h : Qf k x q) (hs : Sz k q) (hk : k ≤ 400000) (h0 : -9223372036854775808 ≤ d) (h1 : d ≤ 9223372036854775807) (hN : 2 ^ 64 ≤ N) : jHg N x d = some (R (kgQ q d)) := by
 unfold jHg kgQ
 have hd := Sz.i64 h0 h1
 rw [jUj h0 h1 hN, bS, jA2 h (Qf.R hd) hs hd (by omega) hN, bS, jUj (by omega) (by omega) hN, bS, qZj (Qf.R (hs.mul hd)) (Qf.R (k := 64) (Sz.i64 (by omega) (by omega))) (by omega) (by exact jY8 (by omega)) hN]; rfl
def jP7 (a b : Rat) (x : Int) : Rat := a + b * (x : Rat)
theorem qY2 {N k : Nat} {a : GAttitude} {p q : Rat} {x : Int} (h1 : Qf k a.Sink p) (h2 : Qf k a.Slope q) (hk : k ≤ 100000) (g0 : -9223372036854775808 ≤ x) (g1 : x ≤ 9223372036854775807) (hN : 2 ^ 64 ≤ N) : jV1 N a x = some (R (jP7 p q x)) := by
 unfold jV1 jP7
 have hd := Sz.i64 g0 g1
 rw [jUj g0 g1 hN, bS, qXq h2 (Qf.R hd) (by omega) hN, bS, jH6 h1 (Qf.R (h2.sz.mul hd)) (by omega) hN]; rfl
theorem ySz {k : Nat} {a : GAttitude} {p q : Rat} {x : Int} (h1 : Qf k a.Sink p) (h2 : Qf k a.Slope q) (g0 : -9223372036854775808 ≤ x) (g1 : x ≤ 9223372036854775807) : Sz (2 * k + 98) (jP7 p q x) :=
 (h1.sz.add (h2.sz.mul (Sz.i64 g0 g1))).mono (by omega)
end Go.KB
