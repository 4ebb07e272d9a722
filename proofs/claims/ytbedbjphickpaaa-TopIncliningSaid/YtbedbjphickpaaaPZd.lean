/- Plain laws of the base package: integers and fractions, comparisons. Plain laws: the numbers of the hull package: whole numbers, products, quotients, masses. No condition. -/
import Derived.Test.YtbedbjphickpaaaPZc
import Derived.Test.YtbedbjphickpaaaPZa
namespace Go.KB
set_option linter.unusedVariables false
theorem blimbs_I {N n : Nat} (h : n < 18446744073709551616) (hN : 2 ^ 64 ≤ N) : f_base_limbs N (n : Int) = some (limbs n) := by
 unfold f_base_limbs
 rw [loopN_eq (fun s => ∃ k : Nat, s.1 = (k : Int) ∧ k ≤ n ∧ s.2 ++ limbs k = limbs n) (fun s => s.1.toNat) (limbs n) ?_ N _ ⟨n, rfl, Nat.le_refl _, by simp⟩ (by simp only []; omega)]
 ·rfl
 ·rintro ⟨s, acc⟩ ⟨k, hs, hk, hl⟩
  simp only at hs hl; subst hs
  unfold f_base_limbs_L1
  simp only [cmp_gtr]
  by_cases h0 : k = 0
  ·subst h0
   refine .inr ?_
   rw [limbs_zero, List.append_nil] at hl
   rw [hl]; rfl
  ·have hlen := congrArg List.length hl
   have : nl n ≤ 4 := nl_le (by omega)
   rw [List.length_append, nl_eq, nl_eq] at hlen
   rw [dT (by omega), cond_true, and64i (by omega), u16n, Nat.mod_mod, app_ok (by simp; unfold lim; omega), bS, shr16 (by decide), bS]
   refine .inl ⟨_, rfl, ⟨k / 65536, rfl, by omega, ?_⟩, by simp only []; omega⟩
   rw [← hl, limbs_pos h0]; simp
theorem Z_I {N : Nat} {z : Int} (h0 : -9223372036854775808 ≤ z) (h1 : z ≤ 9223372036854775807) (hN : 2 ^ 64 ≤ N) : f_base_Z N z = some (I z) := by
  unfold f_base_Z
  rw [cmp_lss]
  by_cases hz : z < 0
  · have e : IntKind.u64.wrap (IntKind.u64.wrap (IntKind.i64.wrap (0 - IntKind.i64.wrap (z + 1))) + 1) = ((z.natAbs : Nat) : Int) := by
      rw [w64i (n := z + 1) (by omega) (by omega), w64i (by omega) (by omega), u64i (n := 0 - (z + 1)) (by omega) (by omega), u64i (by omega) (by omega)]; omega
    rw [dT hz, cond_true, e, blimbs_I (by omega) hN, bS]
    unfold I; rw [dT hz]
  · have e : IntKind.u64.wrap z = ((z.natAbs : Nat) : Int) := by rw [u64i (by omega) (by omega)]; omega
    rw [dF hz, cond_false, e, blimbs_I (by omega) hN, bS]
    unfold I; rw [dF hz]
theorem W_R {N : Nat} {z : Int} (h0 : -9223372036854775808 ≤ z) (h1 : z ≤ 9223372036854775807) (hN : 2 ^ 64 ≤ N) : f_base_W N z = some (R (z : Rat)) := by
 unfold f_base_W
 rw [Z_I h0 h1 hN, bS, Z_I (by omega) (by omega) hN, bS]
 unfold R; rw [Rat.num_intCast, Rat.den_intCast]; rfl
def sameI (x y : GInt) : Bool := (x.Neg == y.Neg) && decide (x.Limbs = y.Limbs)
def sameR (x y : GRat) : Bool := sameI x.Num y.Num && sameI x.Den y.Den
theorem list_same_loop {α O : Type} [DecidableEq α] {a b : List α} {N : Nat} {f : Int → Option (Int ⊕ (Unit ⊕ Bool))} (hlen : a.length = b.length) (hl : a.length < 9223372036854775807) (hN : a.length < N)
  (hf : ∀ i : Nat, (ha : i < a.length) → (hb : i < b.length) → f (i : Int) = if a[i] = b[i] then some (.inl ((i + 1 : Nat) : Int)) else some (.inr (.inr false))) (he : f (a.length : Int) = some (.inr (.inl ()))) :
  ((loopN f N 0).bind fun o6 => Sum.elim (fun l8 => some true) (fun r9 => some r9) o6) = some (decide (a = b)) := by
 by_cases hab : a = b
 ·subst hab
  rw [loopN_range a.length (.inl ()) (fun _ => True) (fun i hi _ => .inl ⟨by rw [hf i hi hi, if_pos rfl], trivial⟩) (fun _ => he) trivial N hN]
  simp
 ·rw [loopN_range a.length (.inr false) (fun i => a.take i = b.take i) (fun i hi hp => by
   have hb : i < b.length := by omega
   rw [hf i hi hb]
   by_cases h : a[i] = b[i]
   ·rw [if_pos h]
    refine .inl ⟨rfl, ?_⟩
    rw [List.take_succ_eq_append_getElem hi, List.take_succ_eq_append_getElem hb, hp, h]
   ·rw [if_neg h]; exact .inr rfl) (fun hp => absurd (by rw [List.take_length, hlen, List.take_length] at hp; exact hp) hab) rfl N hN]
  simp [hab]
theorem SameInt_eq {N : Nat} {x y : GInt} (hx : x.Limbs.length < 9223372036854775807) (hN : x.Limbs.length < N) : f_base_SameInt N x y = some (sameI x y) := by
  unfold f_base_SameInt sameI
  simp only [cmp_neq]
  by_cases hs : x.Neg = y.Neg
  · by_cases hl : x.Limbs.length = y.Limbs.length
    · rw [hs, hl, dT rfl]
      simp only [beq_self_eq_true, Bool.not_true, Bool.or_false, cond_false, Bool.true_and]
      refine list_same_loop (O := Unit) hl hx hN (fun i ha hb => ?_) ?_
      · unfold f_base_SameInt_L1
        simp only [cmp_lss, cmp_neq]
        rw [dT (by omega), cond_true, idx_nat ha, bS, idx_nat hb, bS, w64s (by omega)]
        by_cases h : x.Limbs[i] = y.Limbs[i]
        · rw [dT h, if_pos h]; rfl
        · rw [dF h, if_neg h]; rfl
      · unfold f_base_SameInt_L1
        simp only [cmp_lss]
        rw [dF (by omega)]; rfl
    · rw [dF (show ¬ ((x.Limbs.length : Int) = (y.Limbs.length : Int)) by omega)]
      rw [dF (show ¬ x.Limbs = y.Limbs from fun h => hl (by rw [h]))]
      simp
  · rw [show (x.Neg == y.Neg) = false by simpa using hs]; simp
theorem SameRat_eq {N : Nat} {x y : GRat} (h1 : x.Num.Limbs.length < 1000000) (h2 : x.Den.Limbs.length < 1000000) (hN : 2 ^ 64 ≤ N) : f_base_SameRat N x y = some (sameR x y) := by
 unfold f_base_SameRat sameR
 rw [SameInt_eq (by omega) (by omega), bS]
 cases sameI x.Num y.Num with
 | false => rfl
 | true => rw [cond_true, SameInt_eq (by omega) (by omega)]; rfl
theorem sameR_iff {x y : GRat} : sameR x y = true ↔ x = y := by
 unfold sameR sameI
 simp only [Bool.and_eq_true, beq_iff_eq, decide_eq_true_eq]
 constructor
 ·rintro ⟨⟨h1, h2⟩, h3, h4⟩
  obtain ⟨⟨a, b⟩, ⟨c, d⟩⟩ := x; obtain ⟨⟨a', b'⟩, ⟨c', d'⟩⟩ := y
  simp only at h1 h2 h3 h4
  subst h1; subst h2; subst h3; subst h4; rfl
 ·rintro rfl; exact ⟨⟨rfl, rfl⟩, rfl, rfl⟩
theorem sameR_R {p q : Rat} : sameR (R p) (R q) = decide (p = q) := by
 rw [Bool.eq_iff_iff, sameR_iff, decide_eq_true_eq]
 exact ⟨R_inj, fun h => by rw [h]⟩
theorem R_len {k : Nat} {q : Rat} (h : Sz k q) (hk : k ≤ 4000000) : (R q).Num.Limbs.length < 1000000 ∧ (R q).Den.Limbs.length < 1000000 := by
 have h1 := (Qf.R h).ln
 have h2 := (Qf.R h).ld
 omega
theorem SameRat_R {N k : Nat} {p q : Rat} (h : Sz k p) (hk : k ≤ 4000000) (hN : 2 ^ 64 ≤ N) : f_base_SameRat N (R p) (R q) = some (decide (p = q)) := by
 obtain ⟨h1, h2⟩ := R_len h hk
 rw [SameRat_eq h1 h2 hN, sameR_R]
def zeroR : GRat := ⟨⟨false, []⟩, ⟨false, []⟩⟩
theorem cmpQ_lt (p q : Rat) : decide (cmpQ p q < 0) = decide (p < q) := by
 unfold cmpQ sgnQ
 rw [decide_eq_decide]
 split
 ·grind
 ·split <;> grind
theorem cmpQ_ge (p q : Rat) : decide (0 ≤ cmpQ p q) = decide (q ≤ p) := by
 unfold cmpQ sgnQ
 rw [decide_eq_decide]
 split
 ·grind
 ·split <;> grind
theorem cmpQ_le (p q : Rat) : decide (cmpQ p q ≤ 0) = decide (p ≤ q) := by
 unfold cmpQ sgnQ
 rw [decide_eq_decide]
 split
 ·grind
 ·split <;> grind
end Go.KB
namespace Go.KB
set_option linter.unusedVariables false
theorem Whole_eq {N k : Nat} {x : GInt} (hx : Io k x) (hk : k ≤ 400000) (hN : 2 ^ 64 ≤ N) : f_exact_Whole N x = some (R (ival x : Rat)) := by
 unfold f_exact_Whole
 rw [fraction_eq hx (show Io 1 (⟨false, [1]⟩ : GInt) from ⟨dig_one (by omega) (by omega), by simp⟩) hk (by omega) (by simp [ival, val]) hN, bS]
 rw [show ival (⟨false, [1]⟩ : GInt) = 1 by simp [ival, val]]
 congr 2
 grind
theorem whole_eq {N : Nat} {z : Int} (h0 : -9223372036854775808 ≤ z) (h1 : z ≤ 9223372036854775807) (hN : 2 ^ 64 ≤ N) : f_hull_whole N z = some (R (z : Rat)) := by
 unfold f_hull_whole
 rw [Of_I h0 h1 hN, bS, Whole_eq (io_int h0 h1) (by omega) hN, ival_I]; rfl
theorem exOver_eq {N k l : Nat} {x y : GRat} {p q : Rat} (hx : Qf k x p) (hy : Qf l y q) (hk : k + l ≤ 4000000) (hq0 : q ≠ 0) (hN : 2 ^ 64 ≤ N) : f_exact_over N x y = some (R (p / q)) := by
 unfold f_exact_over
 obtain ⟨b, hb, hbv, hbo⟩ := below_eq hx (by omega) hN
 obtain ⟨c, hc, hcv, hco⟩ := below_eq hy (by omega) hN
 have hn := nl_mul (ival x.Num).natAbs (below y).natAbs
 have hd := nl_mul (below x).natAbs (ival y.Num).natAbs
 have h1 := hx.ion.nl; have h2 := hy.ion.nl; have h3 := hbo.nl; have h4 := hco.nl
 rw [hbv] at h3; rw [hcv] at h4
 rw [← Int.natAbs_mul] at hn hd
 have hy0 : ival y.Num ≠ 0 := fun e => hq0 (by rw [← hy.vq]; unfold rv; rw [e]; simp [Rat.div_def])
 rw [hc, bS, Mul_eq hx.ion hco (by omega) hN, bS, hb, bS, Mul_eq hbo hy.ion (by omega) hN, bS, hbv, hcv]
 rw [fraction_eq (Io.I (Nat.le_refl _)) (Io.I (Nat.le_refl _)) (by omega) (by omega) (by rw [ival_I]; exact Int.mul_ne_zero (below_ne x) hy0) hN, bS, ival_I, ival_I, ← hx.vq, ← hy.vq]
 unfold rv
 have hb1 := rat_ne (below_ne x); have hb2 := rat_ne (below_ne y); have hb3 := rat_ne hy0
 rw [Rat.intCast_mul, Rat.intCast_mul]
 congr 2
 grind
theorem QuoRat_eq {N k l : Nat} {x y : GRat} {p q : Rat} (hx : Qf k x p) (hy : Qf l y q) (hk : k + l ≤ 4000000) (hq0 : q ≠ 0) (hN : 2 ^ 64 ≤ N) : f_exact_QuoRat N x y = some (R (p / q), 0) := by
 unfold f_exact_QuoRat
 rw [isZero_eq hy (by omega) hN, bS, dF hq0, cond_false, exOver_eq hx hy hk hq0 hN]; rfl
theorem over_eq {N k l : Nat} {x y : GRat} {p q : Rat} (hx : Qf k x p) (hy : Qf l y q) (hk : k + l ≤ 4000000) (hq0 : q ≠ 0) (hN : 2 ^ 64 ≤ N) : f_hull_over N x y = some (R (p / q)) := by
 unfold f_hull_over
 rw [QuoRat_eq hx hy hk hq0 hN]; rfl
theorem Sz.one : Sz 1 1 := by unfold Sz; decide
theorem times_loop {N K : Nat} {l : List GRat} {q : Nat → Rat} (hl : l.length ≤ 1000) (hq : ∀ i (h : i < l.length), Qf K l[i] (q i)) (hs : ∀ i (h : i < l.length), Sz K (q i)) (hK : K * (l.length + 1) + 1 ≤ 4000000) (hN : 2 ^ 64 ≤ N) :
  f_hull_times N l = some (R ((List.range l.length).foldl (fun p i => p * q i) 1)) := by
 unfold f_hull_times
 rw [whole_eq (by omega) (by omega) hN, bS]
 have hsz : ∀ i, i ≤ l.length → Sz (K * i + 1) ((List.range i).foldl (fun p i => p * q i) 1) := by
  intro i
  induction i with
  | zero => intro _; exact Sz.one
  | succ i ih =>
   intro hi
   rw [List.range_succ, List.foldl_append]
   exact ((ih (by omega)).mul (hs i (by omega))).mono (by rw [Nat.mul_succ]; omega)
 have := loopN_fold (f := f_hull_times_L1 N l) l.length (fun i => R ((List.range i).foldl (fun p i => p * q i) 1)) (R ((List.range l.length).foldl (fun p i => p * q i) 1)) (fun i hi => by
  unfold f_hull_times_L1
  simp only [cmp_lss]
  have h1 : K * i ≤ K * l.length := Nat.mul_le_mul_left K (by omega)
  have h2 : K * (l.length + 1) = K * l.length + K := Nat.mul_succ _ _
  rw [dT (by omega), cond_true, idx_nat hi, bS, MulRat_eq (Qf.R (hsz i (by omega))) (hq i hi) (by omega) hN, bS, w64s (by omega), List.range_succ, List.foldl_append]; rfl) (by
  unfold f_hull_times_L1
  simp only [cmp_lss]
  rw [dF (by omega)]; rfl) N (by omega)
 rw [show R ((1 : Int) : Rat) = R ((List.range 0).foldl (fun p i => p * q i) 1) from rfl, this]; rfl
theorem times2 {N k l : Nat} {x y : GRat} {p q : Rat} (hx : Qf k x p) (hy : Qf l y q) (h1 : Sz k p) (h2 : Sz l q) (hk : 3 * (k + l) + 1 ≤ 4000000) (hN : 2 ^ 64 ≤ N) : f_hull_times N [x, y] = some (R (p * q)) := by
 rw [times_loop (N := N) (K := k + l) (l := [x, y]) (q := fun i => if i = 0 then p else q) (by simp) (fun i h => by
  match i, h with
  | 0, _ => exact hx.mono (by omega)
  | 1, _ => exact hy.mono (by omega)
  | n + 2, h => simp at h; omega) (fun i h => by
  match i, h with
  | 0, _ => exact h1.mono (by omega)
  | 1, _ => exact h2.mono (by omega)
  | n + 2, h => simp at h; omega) (by simp; omega) hN]
 congr 2
 show 1 * p * q = p * q
 grind
theorem times3 {N k l m : Nat} {x y z : GRat} {p q r : Rat} (hx : Qf k x p) (hy : Qf l y q) (hz : Qf m z r) (h1 : Sz k p) (h2 : Sz l q) (h3 : Sz m r) (hk : 4 * (k + l + m) + 1 ≤ 4000000) (hN : 2 ^ 64 ≤ N) : f_hull_times N [x, y, z] = some (R (p * q * r)) := by
 rw [times_loop (N := N) (K := k + l + m) (l := [x, y, z]) (q := fun i => if i = 0 then p else if i = 1 then q else r) (by simp) (fun i h => by
  match i, h with
  | 0, _ => exact hx.mono (by omega)
  | 1, _ => exact hy.mono (by omega)
  | 2, _ => exact hz.mono (by omega)
  | n + 3, h => simp at h; omega) (fun i h => by
  match i, h with
  | 0, _ => exact h1.mono (by omega)
  | 1, _ => exact h2.mono (by omega)
  | 2, _ => exact h3.mono (by omega)
  | n + 3, h => simp at h; omega) (by simp; omega) hN]
 congr 2
 show 1 * p * q * r = p * q * r
 grind
theorem times5 {N k : Nat} {x y z : GRat} {p q r : Rat} (hx : Qf k x p) (hy : Qf k y q) (hz : Qf k z r) (h1 : Sz k p) (h2 : Sz k q) (h3 : Sz k r) (hk : 6 * k + 1 ≤ 4000000) (hN : 2 ^ 64 ≤ N) : f_hull_times N [x, y, y, y, z] = some (R (p * q * q * q * r)) := by
 rw [times_loop (N := N) (K := k) (l := [x, y, y, y, z]) (q := fun i => if i = 0 then p else if i < 4 then q else r) (by simp) (fun i h => by
  match i, h with
  | 0, _ => exact hx
  | 1, _ => exact hy
  | 2, _ => exact hy
  | 3, _ => exact hy
  | 4, _ => exact hz
  | n + 5, h => simp at h; omega) (fun i h => by
  match i, h with
  | 0, _ => exact h1
  | 1, _ => exact h2
  | 2, _ => exact h2
  | 3, _ => exact h2
  | 4, _ => exact h3
  | n + 5, h => simp at h; omega) (by simp; omega) hN]
 congr 2
 show 1 * p * q * q * q * r = p * q * q * q * r
 grind
theorem hisZero_eq {N k : Nat} {x : GRat} {q : Rat} (h : Qf k x q) (hk : k ≤ 3000000) (hN : 2 ^ 64 ≤ N) : f_hull_isZero N x = some (decide (q = 0)) := by
 unfold f_hull_isZero
 rw [whole_eq (by omega) (by omega) hN, bS, CmpRat_eq h (Qf.R (k := 64) (Sz.i64 (by omega) (by omega))) (by omega) hN, bS, cmp_eql]
 congr 1
 rw [decide_eq_decide]
 unfold cmpQ sgnQ
 constructor
 ·intro e
  by_cases h1 : q - ((0 : Int) : Rat) < 0
  ·rw [if_pos h1] at e; cases e
  ·rw [if_neg h1] at e
   by_cases h2 : q - ((0 : Int) : Rat) = 0
   ·grind
   ·rw [if_neg h2] at e; cases e
 ·rintro rfl
  rw [if_neg (by grind), if_pos (by grind)]
def kgQ (q : Rat) (d : Int) : Rat := q * (d : Rat) / ((1000000000 : Int) : Rat)
theorem mass_eq {N k : Nat} {x : GRat} {q : Rat} {d : Int} (h : Qf k x q) (hs : Sz k q) (hk : k ≤ 400000) (h0 : -9223372036854775808 ≤ d) (h1 : d ≤ 9223372036854775807) (hN : 2 ^ 64 ≤ N) : f_hull_mass N x d = some (R (kgQ q d)) := by
 unfold f_hull_mass kgQ
 have hd := Sz.i64 h0 h1
 rw [whole_eq h0 h1 hN, bS, times2 h (Qf.R hd) hs hd (by omega) hN, bS, whole_eq (by omega) (by omega) hN, bS, over_eq (Qf.R (hs.mul hd)) (Qf.R (k := 64) (Sz.i64 (by omega) (by omega))) (by omega) (by exact rat_ne (by omega)) hN]; rfl
def ySet (a b : Rat) (x : Int) : Rat := a + b * (x : Rat)
theorem Imm_eq {N k : Nat} {a : GAttitude} {p q : Rat} {x : Int} (h1 : Qf k a.Sink p) (h2 : Qf k a.Slope q) (hk : k ≤ 100000) (g0 : -9223372036854775808 ≤ x) (g1 : x ≤ 9223372036854775807) (hN : 2 ^ 64 ≤ N) : f_hull_Immersion N a x = some (R (ySet p q x)) := by
 unfold f_hull_Immersion ySet
 have hd := Sz.i64 g0 g1
 rw [whole_eq g0 g1 hN, bS, MulRat_eq h2 (Qf.R hd) (by omega) hN, bS, AddRat_eq h1 (Qf.R (h2.sz.mul hd)) (by omega) hN]; rfl
theorem ySz {k : Nat} {a : GAttitude} {p q : Rat} {x : Int} (h1 : Qf k a.Sink p) (h2 : Qf k a.Slope q) (g0 : -9223372036854775808 ≤ x) (g1 : x ≤ 9223372036854775807) : Sz (2 * k + 98) (ySet p q x) :=
 (h1.sz.add (h2.sz.mul (Sz.i64 g0 g1))).mono (by omega)
end Go.KB
