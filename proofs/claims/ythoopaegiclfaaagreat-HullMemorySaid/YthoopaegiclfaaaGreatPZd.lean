/- Plain laws of the base package: integers and fractions, comparisons. Plain laws: the numbers of the hull package: whole numbers, products, quotients, masses. No condition. -/
import Derived.Test.YthoopaegiclfaaaGreatPZc
import Derived.Test.YthoopaegiclfaaaGreatPZa
namespace Go.KB
set_option linter.unusedVariables false
theorem R_len {k : Nat} {q : Rat} (h : Sz k q) (hk : k ≤ 4000000) : (R q).Num.Limbs.length < 1000000 ∧ (R q).Den.Limbs.length < 1000000 := by
 have h1 := (Qf.R h).ln
 have h2 := (Qf.R h).ld
 omega
def jAz : jQg := ⟨⟨false, []⟩, ⟨false, []⟩⟩
end Go.KB
namespace Go.KB
set_option linter.unusedVariables false
theorem qV3 {N k : Nat} {x : jXz} (hx : Io k x) (hk : k ≤ 400000) (hN : 2 ^ 64 ≤ N) : jU5 N x = some (R (jY5 x : Rat)) := by
 unfold jU5
 rw [jL4 hx (show Io 1 (⟨false, [1]⟩ : jXz) from ⟨qZw (by omega) (by omega), by simp⟩) hk (by omega) (by simp [jY5, val]) hN, bS]
 rw [show jY5 (⟨false, [1]⟩ : jXz) = 1 by simp [jY5, val]]
 congr 2
 grind
theorem jM4 {N : Nat} {z : Int} (h0 : -9223372036854775808 ≤ z) (h1 : z ≤ 9223372036854775807) (hN : 2 ^ 64 ≤ N) : jJ1 N z = some (R (z : Rat)) := by
 unfold jJ1
 rw [Of_I h0 h1 hN, bS, qV3 (io_int h0 h1) (by omega) hN, jN8]; rfl
theorem qX5 {N k l : Nat} {x y : jQg} {p q : Rat} (hx : Qf k x p) (hy : Qf l y q) (hk : k + l ≤ 4000000) (hq0 : q ≠ 0) (hN : 2 ^ 64 ≤ N) : jHh N x y = some (R (p / q)) := by
 unfold jHh
 obtain ⟨b, hb, hbv, hbo⟩ := jPn hx (by omega) hN
 obtain ⟨c, hc, hcv, hco⟩ := jPn hy (by omega) hN
 have hn := jT1 (jY5 x.Num).natAbs (below y).natAbs
 have hd := jT1 (below x).natAbs (jY5 y.Num).natAbs
 have h1 := hx.ion.nl; have h2 := hy.ion.nl; have h3 := hbo.nl; have h4 := hco.nl
 rw [hbv] at h3; rw [hcv] at h4
 rw [← Int.natAbs_mul] at hn hd
 have hy0 : jY5 y.Num ≠ 0 := fun e => hq0 (by rw [← hy.vq]; unfold rv; rw [e]; simp [Rat.div_def])
 rw [hc, bS, qJk hx.ion hco (by omega) hN, bS, hb, bS, qJk hbo hy.ion (by omega) hN, bS, hbv, hcv]
 rw [jL4 (Io.I (Nat.le_refl _)) (Io.I (Nat.le_refl _)) (by omega) (by omega) (by rw [jN8]; exact Int.mul_ne_zero (jH4 x) hy0) hN, bS, jN8, jN8, ← hx.vq, ← hy.vq]
 unfold rv
 have hb1 := jFx (jH4 x); have hb2 := jFx (jH4 y); have hb3 := jFx hy0
 rw [Rat.intCast_mul, Rat.intCast_mul]
 congr 2
 grind
theorem qXp {N k l : Nat} {x y : jQg} {p q : Rat} (hx : Qf k x p) (hy : Qf l y q) (hk : k + l ≤ 4000000) (hq0 : q ≠ 0) (hN : 2 ^ 64 ≤ N) : jUw N x y = some (R (p / q), 0) := by
 unfold jUw
 rw [qX7 hy (by omega) hN, bS, dF hq0, cnF, qX5 hx hy hk hq0 hN]; rfl
theorem qY1 {N k l : Nat} {x y : jQg} {p q : Rat} (hx : Qf k x p) (hy : Qf l y q) (hk : k + l ≤ 4000000) (hq0 : q ≠ 0) (hN : 2 ^ 64 ≤ N) : jZe N x y = some (R (p / q)) := by
 unfold jZe
 rw [qXp hx hy hk hq0 hN]; rfl
theorem Sz.one : Sz 1 1 := by unfold Sz; decide
theorem qJ2 {N K : Nat} {l : List jQg} {q : Nat → Rat} (hl : l.length ≤ 1000) (hq : ∀ i (h : i < l.length), Qf K l[i] (q i)) (hs : ∀ i (h : i < l.length), Sz K (q i)) (hK : K * (l.length + 1) + 1 ≤ 4000000) (hN : 2 ^ 64 ≤ N) :
  jXa N l = some (R ((List.range l.length).foldl (fun p i => p * q i) 1)) := by
 unfold jXa
 rw [jM4 (by omega) (by omega) hN, bS]
 have hsz : ∀ i, i ≤ l.length → Sz (K * i + 1) ((List.range i).foldl (fun p i => p * q i) 1) := by
  intro i
  induction i with
  | zero => intro _; exact Sz.one
  | succ i ih =>
   intro hi
   rw [List.range_succ, List.foldl_append]
   exact ((ih (by omega)).mul (hs i (by omega))).mono (by rw [Nat.mul_succ]; omega)
 have := qQt (f := jY0 N l) l.length (fun i => R ((List.range i).foldl (fun p i => p * q i) 1)) (R ((List.range l.length).foldl (fun p i => p * q i) 1)) (fun i hi => by
  unfold jY0
  simp only [jQr]
  have h1 : K * i ≤ K * l.length := Nat.mul_le_mul_left K (by omega)
  have h2 : K * (l.length + 1) = K * l.length + K := Nat.mul_succ _ _
  rw [dT (by omega), cnT, jBg hi, bS, qZ6 (Qf.R (hsz i (by omega))) (hq i hi) (by omega) hN, bS, jNh (by omega), List.range_succ, List.foldl_append]; rfl) (by
  unfold jY0
  simp only [jQr]
  rw [dF (by omega)]; rfl) N (by omega)
 rw [show R ((1 : Int) : Rat) = R ((List.range 0).foldl (fun p i => p * q i) 1) from rfl, this]; rfl
theorem times2 {N k l : Nat} {x y : jQg} {p q : Rat} (hx : Qf k x p) (hy : Qf l y q) (h1 : Sz k p) (h2 : Sz l q) (hk : 3 * (k + l) + 1 ≤ 4000000) (hN : 2 ^ 64 ≤ N) : jXa N [x, y] = some (R (p * q)) := by
 rw [qJ2 (N := N) (K := k + l) (l := [x, y]) (q := fun i => if i = 0 then p else q) (by simp) (fun i h => by
  match i, h with
  | 0, _ => exact hx.mono (by omega)
  | 1, _ => exact hy.mono (by omega)
  | n + 2, h => simp at h; omega) (fun i h => by
  match i, h with
  | 0, _ => exact h1.mono (by omega)
  | 1, _ => exact h2.mono (by omega)
  | n + 2, h => simp at h; omega) (by simp; omega) hN]
 congr 2
 show 1 * p * q = p * q
 grind
def kgQ (q : Rat) (d : Int) : Rat := q * (d : Rat) / ((1000000000 : Int) : Rat)
theorem qY6 {N k : Nat} {x : jQg} {q : Rat} {d : Int} (h : Qf k x q) (hs : Sz k q) (hk : k ≤ 400000) (h0 : -9223372036854775808 ≤ d) (h1 : d ≤ 9223372036854775807) (hN : 2 ^ 64 ≤ N) : jUn N x d = some (R (kgQ q d)) := by
 unfold jUn kgQ
 have hd := Sz.i64 h0 h1
 rw [jM4 h0 h1 hN, bS, times2 h (Qf.R hd) hs hd (by omega) hN, bS, jM4 (by omega) (by omega) hN, bS, qY1 (Qf.R (hs.mul hd)) (Qf.R (k := 64) (Sz.i64 (by omega) (by omega))) (by omega) (by exact jFx (by omega)) hN]; rfl
def ySet (a b : Rat) (x : Int) : Rat := a + b * (x : Rat)
end Go.KB
