/- Plain laws of the reference's long arithmetic: natural numbers. Plain laws of the reference's long arithmetic: quotients, integers, fractions. No condition. -/
import Derived.Test.YtoiefhkiipolmaaGreatPZc
namespace Go.KB
set_option linter.unusedVariables false
theorem qH5 {a g : Nat} (h : a < 9223372036854775808) (h0 : g ≠ 0) : jS4 .i64 (a : Int) (g : Int) = some ((a / g : Nat) : Int) := by
 unfold jS4
 have := Nat.div_le_self a g
 rw [if_neg (by omega), ← Int.ofNat_tdiv, w64n (by omega)]
theorem qY9 {l : List Int} {n : Nat} (hd : Dig l) (hn : n ≤ l.length) (h : n = 0 ∨ ldg l (n - 1) ≠ 0) : Norm (l.take n) := by
 refine ⟨jGh hd n, fun hne => ?_⟩
 have hlen : (l.take n).length = n := by rw [List.length_take]; omega
 have h0 : n ≠ 0 := fun e => by subst e; simp at hne
 rw [List.getLast_eq_getElem]
 have h1 : ldg l (n - 1) ≠ 0 := h.resolve_left h0
 have h2 : (l.take n)[(l.take n).length - 1]'(by omega) = l[n - 1]'(by omega) := by rw [List.getElem_take]; congr 1; omega
 rw [h2]
 rw [jM2 (by omega)] at h1
 omega
theorem jNx {N : Nat} {l : List Int} (hd : Dig l) (hl : l.length ≤ 2000000) (hN : 2 ^ 64 ≤ N) : jWy N l = some (limbs (val l)) := by
  unfold jWy
  obtain ⟨o, ho, n, hn, rfl, hv, hz⟩ := jWk (f := jU7 N l) (fun s => ∃ n : Nat, n ≤ l.length ∧ s = (n : Int) ∧ val (l.take n) = val l) (fun s => s.toNat) (fun o => ∃ n : Nat, n ≤ l.length ∧ o = (n : Int) ∧ val (l.take n) = val l ∧ (n = 0 ∨ ldg l (n - 1) ≠ 0)) (by
    rintro s ⟨n, hn, rfl, hv⟩
    unfold jU7
    cases n with
    | zero =>
      refine .inr ⟨0, ?_, 0, by omega, rfl, hv, .inl rfl⟩
      rfl
    | succ n =>
      have e1 : IntKind.i64.wrap (((n + 1 : Nat) : Int) - 1) = ((n : Nat) : Int) := by rw [jG5 (by omega) (by omega)]; omega
      rw [jVd, dT (by omega), cnT, e1, jV4 hd (by omega), bS, Bool.true_and, jU9]
      by_cases h0 : ldg l n = 0
      · rw [dT (by omega), cnT]
        refine .inl ⟨_, rfl, ⟨n, by omega, rfl, ?_⟩, by omega⟩
        rw [jQd, h0] at hv; simpa using hv
      · rw [dF (by omega), cnF]
        exact .inr ⟨_, rfl, n + 1, hn, rfl, hv, .inr h0⟩) N _ ⟨l.length, Nat.le_refl _, rfl, by rw [List.take_length]⟩ (by omega)
  rw [ho, bS, jAp hn, bS, jK7 (by simp; unfold lim; omega), bS, List.nil_append, ← hv, qJg (qY9 hd hn hz)]
theorem jP4 {N i : Nat} {l : List Int} (hd : Dig l) : jY4 N l (i : Int) = some ((ldg l i : Nat) : Int) := by
 unfold jY4
 by_cases h : i < l.length
 ·rw [jQk, dT (by omega), cnT, jV4 hd h]; rfl
 ·rw [jQk, dF (by omega), cnF, jFx (by omega)]; rfl
theorem qUp {N : Nat} {l : List Int} (hd : Dig l) (hl : l.length ≤ 1000000) (hN : 2 ^ 64 ≤ N) : jVa N l = some (limbs (val l)) := by
 unfold jVa
 have := jNy (f := jKh N l) l.length (fun i => l.take i) l (by
  intro i hi
  unfold jKh
  have hg := jV1 hd i
  simp (disch := omega) only [jQk, dT, cnT, jV4 hd, bS, jG5]
  rw [jK7 (by simp; unfold lim; omega), bS, List.take_succ_eq_append_getElem hi, jN0 hd hi]
  rfl) (by
  unfold jKh
  simp (disch := omega) only [jQk, dF, cnF, List.take_length]) N (by omega)
 rw [List.take_zero] at this
 rw [this, bS, jNx hd (by omega) hN]; rfl
theorem qUj {N m n : Nat} (hm : nl m ≤ 900000) (hn : nl n ≤ 900000) (hN : 2 ^ 64 ≤ N) : jB8 N (limbs m) (limbs n) = some (limbs (m + n)) := by
  have ha := jQ9 m
  have hb := jQ9 n
  have hal : (limbs m).length ≤ 900000 := hm
  have hbl : (limbs n).length ≤ 900000 := hn
  have hvm := jXl m
  have hvn := jXl n
  generalize limbs m = a at *
  generalize limbs n = b at *
  unfold jB8
  obtain ⟨o, ho, hd, hlen, hv⟩ := jWk (f := jUe N a b) (fun s => ∃ i c : Nat, i ≤ 900001 ∧ c < 2 ∧ s.2 = ((c : Int), (i : Int)) ∧ Dig s.1 ∧ s.1.length = i ∧ val s.1 + 65536 ^ i * c = val (a.take i) + val (b.take i) ∧ (i = 900001 → c = 0)) (fun s => 900002 - s.2.2.toNat)
    (fun o => Dig o ∧ o.length ≤ 900001 ∧ val o = val a + val b) (by
    rintro ⟨acc, cc, ii⟩ ⟨i, c, hi, hc, hs, hd, hlen, hv, hz⟩
    simp only [Prod.mk.injEq] at hs hd hlen hv; obtain ⟨rfl, rfl⟩ := hs
    unfold jUe
    simp only [jQk, jVd]
    by_cases hgo : i < a.length ∨ i < b.length ∨ 0 < c
    · have hx := jV1 ha i
      have hy := jV1 hb i
      have hcond : ((decide ((i : Int) < (a.length : Int)) || decide ((i : Int) < (b.length : Int))) || decide ((0 : Int) < (c : Int))) = true := by
        simp only [Bool.or_eq_true, decide_eq_true_eq]; omega
      have hile : i ≤ 900000 := by omega
      rw [hcond, cnT, jP4 ha, bS, jP4 hb, bS]
      have e1 : IntKind.i64.wrap (IntKind.i64.wrap (((ldg a i : Nat) : Int) + ((ldg b i : Nat) : Int)) + (c : Int)) = ((ldg a i + ldg b i + c : Nat) : Int) := by
        rw [jG5 (n := ((ldg a i : Nat) : Int) + ((ldg b i : Nat) : Int)) (by omega) (by omega), jG5 (by omega) (by omega)]; omega
      rw [e1, show (65536 : Int) = ((65536 : Nat) : Int) from rfl, remN (by decide), bS, jK7 (by simp; unfold lim; omega), bS, qH5 (by omega) (by decide), bS, jLn (by omega)]
      refine .inl ⟨_, rfl, ⟨i + 1, (ldg a i + ldg b i + c) / 65536, by omega, by omega, rfl, jM7 hd (jM9 (by omega) (by omega)), by simp [hlen], ?_, ?_⟩, by simp; omega⟩
      · rw [jPd, jQd, jQd, hlen, Int.toNat_natCast, Nat.pow_succ]
        have h2 := Nat.mod_add_div (ldg a i + ldg b i + c) 65536
        generalize (ldg a i + ldg b i + c) % 65536 = mm at *
        generalize (ldg a i + ldg b i + c) / 65536 = dd at *
        generalize 65536 ^ i = P at *
        have h3 : P * (mm + 65536 * dd) = P * (ldg a i + ldg b i + c) := by rw [h2]
        clear e1 hcond
        grind
      · intro h
        rw [jFx (l := a) (by omega), jFx (l := b) (by omega)]; omega
    · have hcond : ((decide ((i : Int) < (a.length : Int)) || decide ((i : Int) < (b.length : Int))) || decide ((0 : Int) < (c : Int))) = false := by
        simp only [Bool.or_eq_false_iff, decide_eq_false_iff_not]; omega
      rw [hcond, cnF]
      refine .inr ⟨_, rfl, hd, by omega, ?_⟩
      rw [List.take_of_length_le (by omega), List.take_of_length_le (by omega), show c = 0 by omega] at hv
      simpa using hv) N ([], 0, 0) ⟨0, 0, by omega, by omega, rfl, qXg, rfl, by simp [val], by omega⟩ (by simp only []; omega)
  rw [ho, bS, jNx hd (by omega) hN, hv, hvm, hvn]; rfl
theorem jTn {N m n : Nat} (hle : n ≤ m) (hm : nl m ≤ 900000) (hN : 2 ^ 64 ≤ N) : jKe N (limbs m) (limbs n) = some (limbs (m - n)) := by
  have ha := jQ9 m
  have hb := jQ9 n
  have hbl : (limbs n).length ≤ (limbs m).length := jUn hle
  have hal : (limbs m).length ≤ 900000 := hm
  have hvm := jXl m
  have hvn := jXl n
  generalize limbs m = a at *
  generalize limbs n = b at *
  unfold jKe
  obtain ⟨o, ho, hd, hlen, hv⟩ := jWk (f := jK6 N a b) (fun s => ∃ i c : Nat, i ≤ a.length ∧ c < 2 ∧ s.2 = ((c : Int), (i : Int)) ∧ Dig s.1 ∧ s.1.length = i ∧ val s.1 + val (b.take i) = val (a.take i) + 65536 ^ i * c) (fun s => a.length - s.2.2.toNat)
    (fun o => Dig o ∧ o.length = a.length ∧ ∃ c : Nat, c < 2 ∧ val o + val b = val a + 65536 ^ a.length * c) (by
    rintro ⟨acc, cc, ii⟩ ⟨i, c, hi, hc, hs, hd, hlen, hv⟩
    simp only [Prod.mk.injEq] at hs hd hlen hv; obtain ⟨rfl, rfl⟩ := hs
    unfold jK6
    simp only [jQk]
    by_cases hlt : i < a.length
    · have hx := jV1 ha i
      have hy := jV1 hb i
      have e1 : IntKind.i64.wrap (IntKind.i64.wrap (((ldg a i : Nat) : Int) - ((ldg b i : Nat) : Int)) - (c : Int)) = (((ldg a i : Nat) : Int) - ((ldg b i : Nat) : Int) - (c : Int)) := by
        rw [jG5 (n := ((ldg a i : Nat) : Int) - ((ldg b i : Nat) : Int)) (by omega) (by omega), jG5 (by omega) (by omega)]
      rw [dT (by omega), cnT, jV4 ha hlt, bS, jP4 hb, bS, e1]
      by_cases hneg : ldg a i < ldg b i + c
      · rw [dT (by omega), cnT, jG5 (n := ((ldg a i : Nat) : Int) - ((ldg b i : Nat) : Int) - (c : Int) + 65536) (by omega) (by omega), jK7 (by simp; unfold lim; omega), bS, jLn (by omega)]
        refine .inl ⟨_, rfl, ⟨i + 1, 1, by omega, by omega, rfl, jM7 hd (jM9 (by omega) (by omega)), by simp [hlen], ?_⟩, by simp; omega⟩
        rw [jPd, jQd, jQd, hlen, Nat.pow_succ]
        have e2 : (((ldg a i : Nat) : Int) - ((ldg b i : Nat) : Int) - (c : Int) + 65536).toNat + ldg b i + c = ldg a i + 65536 := by omega
        generalize (((ldg a i : Nat) : Int) - ((ldg b i : Nat) : Int) - (c : Int) + 65536).toNat = z at *
        generalize 65536 ^ i = P at *
        have h3 : P * (z + ldg b i + c) = P * (ldg a i + 65536) := by rw [e2]
        clear e1
        grind
      · rw [dF (by omega), cnF, jK7 (by simp; unfold lim; omega), bS, jLn (by omega)]
        refine .inl ⟨_, rfl, ⟨i + 1, 0, by omega, by omega, rfl, jM7 hd (jM9 (by omega) (by omega)), by simp [hlen], ?_⟩, by simp; omega⟩
        rw [jPd, jQd, jQd, hlen, Nat.pow_succ]
        have e2 : (((ldg a i : Nat) : Int) - ((ldg b i : Nat) : Int) - (c : Int)).toNat + ldg b i + c = ldg a i := by omega
        generalize (((ldg a i : Nat) : Int) - ((ldg b i : Nat) : Int) - (c : Int)).toNat = z at *
        generalize 65536 ^ i = P at *
        have h3 : P * (z + ldg b i + c) = P * (ldg a i) := by rw [e2]
        clear e1
        grind
    · obtain rfl : i = a.length := by omega
      rw [dF (by omega), cnF]
      refine .inr ⟨_, rfl, hd, hlen, c, hc, ?_⟩
      rw [List.take_of_length_le hbl, List.take_length] at hv; exact hv) N ([], 0, 0) ⟨0, 0, by omega, by omega, rfl, qXg, rfl, by simp [val]⟩ (by simp only []; omega)
  obtain ⟨c, hc, hv⟩ := hv
  have h1 := jGm hd
  rw [hlen] at h1
  have hc0 : c = 0 := by
    rcases Nat.lt_or_ge c 1 with h | h
    · omega
    · obtain rfl : c = 1 := by omega
      omega
  subst hc0
  rw [ho, bS, jNx hd (by omega) hN, show val o = m - n by omega]; rfl
theorem qQw {N i x : Nat} {a b out0 : List Int} (ha : Dig a) (hia : i < a.length) (hxa : ldg a i = x) (hb : Dig b) (ho : Dig out0) (hlen : i + b.length < out0.length) (hl : out0.length ≤ 2000000) (hz : ldg out0 (i + b.length) = 0) (hN : 2 ^ 64 ≤ N) :
    ∃ o, jQ1 (jUu N a b (out0, (i : Int))) N (out0, 0, 0) = some o ∧ Dig o ∧ o.length = out0.length ∧ val o = val out0 + 65536 ^ i * (x * val b) := by
  have hx := jV1 ha i
  rw [hxa] at hx
  refine jWk (fun s => ∃ k c : Nat, k ≤ b.length + 1 ∧ c < 65536 ∧ s.2 = ((c : Int), (k : Int)) ∧ Dig s.1 ∧ s.1.length = out0.length ∧ (k ≤ b.length → ldg s.1 (i + b.length) = 0) ∧ (k = b.length + 1 → c = 0) ∧ val s.1 + 65536 ^ (i + k) * c = val out0 + 65536 ^ i * (x * val (b.take k))) (fun s => b.length + 1 - s.2.2.toNat) _ ?_ N _ ⟨0, 0, by omega, by omega, rfl, ho, rfl, fun _ => hz, by omega, by simp [val]⟩ (by simp only []; omega)
  rintro ⟨out, cc, kk⟩ ⟨k, c, hk, hc, hs, hd, hlo, hz', hc0, hv⟩
  simp only [Prod.mk.injEq] at hs hd hlo hz' hv; obtain ⟨rfl, rfl⟩ := hs
  unfold jUu
  simp only [jQk, jVd]
  by_cases hgo : k < b.length ∨ 0 < c
  · have hcond : (decide ((k : Int) < (b.length : Int)) || decide ((0 : Int) < (c : Int))) = true := by simp only [Bool.or_eq_true, decide_eq_true_eq]; omega
    have hkb : k ≤ b.length := by omega
    have hy := jV1 hb k
    have hu := jV1 hd (i + k)
    have hxy := jLm hx hy
    have hik : IntKind.i64.wrap ((i : Int) + (k : Int)) = ((i + k : Nat) : Int) := by rw [jG5 (by omega) (by omega)]; omega
    have e1 : IntKind.i64.wrap (IntKind.i64.wrap (((ldg out (i + k) : Nat) : Int) + IntKind.i64.wrap (((ldg a i : Nat) : Int) * ((ldg b k : Nat) : Int))) + (c : Int)) = ((ldg out (i + k) + x * ldg b k + c : Nat) : Int) := by
      rw [hxa, ← Int.natCast_mul, jG5 (n := ((x * ldg b k : Nat) : Int)) (by omega) (by omega), jG5 (n := ((ldg out (i + k) : Nat) : Int) + ((x * ldg b k : Nat) : Int)) (by omega) (by omega), jG5 (by omega) (by omega)]; omega
    rw [hcond, cnT, hik, jV4 hd (by omega), bS, jV4 ha hia, bS, jP4 hb, bS, e1, show (65536 : Int) = ((65536 : Nat) : Int) from rfl, remN (by decide), bS, bS, qH5 (by omega) (by decide), bS, jLn (by omega), Int.toNat_natCast]
    refine .inl ⟨_, rfl, ⟨k + 1, (ldg out (i + k) + x * ldg b k + c) / 65536, by omega, by omega, rfl, jBy hd (by omega) (by omega), by simp [hlo], ?_, ?_, ?_⟩, by simp only []; omega⟩
    · intro h; rw [jRn (by omega)]; exact hz' (by omega)
    · intro h
      obtain rfl : k = b.length := by omega
      rw [hz' (Nat.le_refl _), jFx (l := b) (Nat.le_refl _)]; omega
    · have h1 := qQr (d := (((ldg out (i + k) + x * ldg b k + c) % 65536 : Nat) : Int)) (show i + k < out.length by omega)
      rw [Int.toNat_natCast] at h1
      rw [jQd]
      have h2 := Nat.mod_add_div (ldg out (i + k) + x * ldg b k + c) 65536
      rw [show i + (k + 1) = i + k + 1 by omega, Nat.pow_succ]
      have hP : 65536 ^ (i + k) = 65536 ^ i * 65536 ^ k := Nat.pow_add _ _ _
      generalize val (out.set (i + k) (((ldg out (i + k) + x * ldg b k + c) % 65536 : Nat) : Int)) = V at *
      generalize (ldg out (i + k) + x * ldg b k + c) % 65536 = m at *
      generalize (ldg out (i + k) + x * ldg b k + c) / 65536 = q at *
      generalize 65536 ^ (i + k) = P at *
      generalize ldg out (i + k) = u at *
      generalize ldg b k = y at *
      generalize 65536 ^ k = Q at *
      generalize 65536 ^ i = RR at *
      have h3 : P * (m + 65536 * q) = P * (u + x * y + c) := by rw [h2]
      subst hP
      clear e1 hcond hik
      grind
  · have hcond : (decide ((k : Int) < (b.length : Int)) || decide ((0 : Int) < (c : Int))) = false := by simp only [Bool.or_eq_false_iff, decide_eq_false_iff_not]; omega
    rw [hcond, cnF]
    refine .inr ⟨_, rfl, hd, hlo, ?_⟩
    rw [List.take_of_length_le (by omega), show c = 0 by omega] at hv
    simpa using hv
theorem jTj {N m n : Nat} (hm : nl m ≤ 900000) (hn : nl n ≤ 900000) (hN : 2 ^ 64 ≤ N) : jK3 N (limbs m) (limbs n) = some (limbs (m * n)) := by
  have ha := jQ9 m
  have hb := jQ9 n
  have hal : (limbs m).length ≤ 900000 := hm
  have hbl : (limbs n).length ≤ 900000 := hn
  have hvm := jXl m
  have hvn := jXl n
  generalize limbs m = a at *
  generalize limbs n = b at *
  unfold jK3
  rw [jG5 (n := (a.length : Int) + (b.length : Int)) (by omega) (by omega), jG5 (by omega) (by omega), jT2 (by omega) (by omega), bS, show ((a.length : Int) + (b.length : Int) + 1).toNat = a.length + b.length + 1 by omega]
  obtain ⟨o, ho, hd, hlen, hv⟩ := jWk (f := jUv N a b) (fun s => ∃ i : Nat, i ≤ a.length ∧ s.2 = (i : Int) ∧ Dig s.1 ∧ s.1.length = a.length + b.length + 1 ∧ val s.1 = val (a.take i) * val b) (fun s => a.length - s.2.toNat)
    (fun o => Dig o ∧ o.length = a.length + b.length + 1 ∧ val o = val a * val b) (by
    rintro ⟨out, ii⟩ ⟨i, hi, hs, hd, hlen, hv⟩
    simp only at hs hd hlen hv; subst hs
    unfold jUv
    simp only [jQk]
    by_cases hlt : i < a.length
    · have hbd : val (a.take i) * val b < 65536 ^ (i + b.length) := by
        have h1 := jGm (jGh ha i)
        have h2 : 65536 ^ (a.take i).length ≤ 65536 ^ i := Nat.pow_le_pow_right (by decide) (by rw [List.length_take]; omega)
        rw [Nat.pow_add]
        exact Nat.mul_lt_mul'' (by omega) (jGm hb)
      obtain ⟨o, ho, hd', hlen', hv'⟩ := qQw (N := N) (i := i) ha hlt rfl hb hd (by omega) (by omega) (qZp (by rw [hv]; exact hbd)) hN
      rw [dT (by omega), cnT, ho, bS, jLn (by omega)]
      refine .inl ⟨_, rfl, ⟨i + 1, by omega, rfl, hd', hlen'.trans hlen, ?_⟩, by simp; omega⟩
      rw [hv', hv, jQd]; grind
    · obtain rfl : i = a.length := by omega
      rw [dF (by omega), cnF]
      refine .inr ⟨_, rfl, hd, hlen, ?_⟩
      rw [List.take_length] at hv; exact hv) N (List.replicate (a.length + b.length + 1) 0, 0) ⟨0, by omega, rfl, jN8 _, by simp, by simp [val, qYk]⟩ (by simp only []; omega)
  rw [ho, bS, jNx hd (by omega) hN, hv, hvm, hvn]; rfl
theorem jT4 {N a b : Nat} (ha : nl a ≤ 1000000) (hb : nl b ≤ 1000000) (hN : 2 ^ 64 ≤ N) : ∃ c, jKn N (limbs a) (limbs b) = some c ∧ (c < 0 ↔ a < b) ∧ (c = 0 ↔ a = b) := by
  have hda := jQ9 a
  have hdb := jQ9 b
  unfold jKn
  simp only [jW4, jVw]
  by_cases hlen : nl a = nl b
  · rw [hlen, dT rfl, Bool.not_true, cnF]
    obtain ⟨o, ho, hp⟩ := jWk (f := jY5 N (limbs a) (limbs b)) (fun s => ∃ k : Nat, k ≤ nl b ∧ s = (k : Int) - 1 ∧ (limbs a).drop k = (limbs b).drop k) (fun s => (s + 1).toNat)
      (fun o => match o with | .inl _ => a = b | .inr c => (c < 0 ↔ a < b) ∧ (c = 0 ↔ a = b)) (by
      rintro s ⟨k, hk, rfl, he⟩
      unfold jY5
      simp only [jDv, jVw]
      cases k with
      | zero =>
        rw [dF (by omega), cnF]
        refine .inr ⟨_, rfl, ?_⟩
        have : limbs a = limbs b := by simpa using he
        show a = b
        rw [← jXl a, ← jXl b, this]
      | succ k =>
        have hxa := jV1 hda k
        have hxb := jV1 hdb k
        have hka : k < (limbs a).length := by rw [jW4]; omega
        have hkb : k < (limbs b).length := by rw [jW4]; omega
        rw [show ((k + 1 : Nat) : Int) - 1 = (k : Int) by omega, dT (by omega), cnT, jV4 hda hka, bS, jV4 hdb hkb, bS]
        by_cases hne : ldg (limbs a) k = ldg (limbs b) k
        · rw [dT (by omega), Bool.not_true, cnF, jG5 (by omega) (by omega)]
          refine .inl ⟨_, rfl, ⟨k, by omega, rfl, ?_⟩, by omega⟩
          rw [List.drop_eq_getElem_cons hka, List.drop_eq_getElem_cons hkb, he, jN0 hda hka, jN0 hdb hkb, hne]
        · rw [dF (by omega), Bool.not_false, cnT, bS, bS, jG5 (by omega) (by omega)]
          refine .inr ⟨_, rfl, ?_⟩
          have key : ∀ {x y : Nat}, (hx : k < (limbs x).length) → (hy : k < (limbs y).length) → (limbs x).drop (k + 1) = (limbs y).drop (k + 1) → ldg (limbs x) k < ldg (limbs y) k → x < y := by
            intro x y hx hy hdr hlt
            have := jSa (jQ9 x) (jQ9 y) hx hy hdr (by rw [jN0 (jQ9 x) hx, jN0 (jQ9 y) hy]; omega)
            rwa [jXl, jXl] at this
          rcases Nat.lt_or_gt_of_ne hne with h | h
          · have := key hka hkb he h
            exact ⟨⟨fun _ => this, fun _ => by omega⟩, ⟨fun _ => by omega, fun _ => by omega⟩⟩
          · have := key hkb hka he.symm h
            exact ⟨⟨fun _ => by omega, fun _ => by omega⟩, ⟨fun _ => by omega, fun _ => by omega⟩⟩) N (IntKind.i64.wrap (((nl b : Nat) : Int) - 1)) ⟨nl b, Nat.le_refl _, by rw [jG5 (by omega) (by omega)], by rw [List.drop_of_length_le (by rw [jW4]; omega), List.drop_of_length_le (by rw [jW4]; omega)]⟩ (by rw [jG5 (by omega) (by omega)]; omega)
    rw [ho, bS]
    cases o with
    | inl u => exact ⟨0, rfl, ⟨fun h => by omega, fun h => by have : a = b := hp; omega⟩, ⟨fun _ => hp, fun _ => rfl⟩⟩
    | inr c => exact ⟨c, rfl, hp⟩
  · rw [dF (by omega), Bool.not_false, cnT, jG5 (by omega) (by omega)]
    refine ⟨_, rfl, ?_⟩
    have k1 : nl a < nl b → a < b := fun h => jFk h
    have k2 : nl b < nl a → b < a := fun h => jFk h
    have k3 : a = b → nl a = nl b := fun h => by rw [h]
    constructor <;> constructor <;> intro h <;> omega
end Go.KB
namespace Go.KB
set_option linter.unusedVariables false
theorem qYr {m : Nat} (h : m < 65536) : nl m ≤ 1 := jSy (by simpa using h)
theorem qHm {N n r : Nat} (hn0 : n ≠ 0) (hn : nl n ≤ 800000) (hr : nl r ≤ 900000) (hd : r / n < 65536) (hN : 2 ^ 64 ≤ N) :
    jQ1 (jU5 N (limbs n) (limbs r)) N (0, 65535) = some ((r / n : Nat) : Int) := by
  have hpos : 0 < n := Nat.pos_of_ne_zero hn0
  refine jH0 (fun s => ∃ lo hi : Nat, s = ((lo : Int), (hi : Int)) ∧ lo ≤ r / n ∧ r / n ≤ hi ∧ hi < 65536) (fun s => (s.2 - s.1).toNat) _ ?_ N _ ⟨0, 65535, rfl, Nat.zero_le _, Nat.le_of_lt_succ hd, by omega⟩ (by simp only []; omega)
  rintro s ⟨lo, hi, rfl, h1, h2, h3⟩
  unfold jU5
  simp only [jQk, jD5]
  by_cases hlt : lo < hi
  · have e1 : IntKind.i64.wrap (IntKind.i64.wrap ((lo : Int) + (hi : Int)) + 1) = ((lo + hi + 1 : Nat) : Int) := by rw [jG5 (n := (lo : Int) + (hi : Int)) (by omega) (by omega), jG5 (by omega) (by omega)]; omega
    generalize hm : (lo + hi + 1) / 2 = m
    have hm0 : m ≠ 0 := by omega
    have hml := jB1 n m
    have hm1 := qYr (show m < 65536 by omega)
    obtain ⟨c, hc, hclt, hceq⟩ := jT4 (N := N) (a := n * m) (b := r) (by omega) (by omega) hN
    rw [dT (by omega), cnT, e1, show (2 : Int) = ((2 : Nat) : Int) from rfl, qH5 (by omega) (by decide), hm, bS, ← jMv hm0 (by omega), jTj (by omega) (by omega) hN, bS, hc, bS]
    by_cases hle : n * m ≤ r
    · rw [dT (by rcases Nat.lt_or_ge (n * m) r with h | h; exact Int.le_of_lt (hclt.2 h); exact Int.le_of_eq (hceq.2 (by omega))), cnT]
      exact .inl ⟨_, rfl, ⟨m, hi, rfl, by rw [Nat.le_div_iff_mul_le hpos, Nat.mul_comm]; exact hle, h2, h3⟩, by simp only []; omega⟩
    · rw [dF (by have g1 : ¬ c < 0 := fun h => by have := hclt.1 h; omega
                 have g2 : ¬ c = 0 := fun h => by have := hceq.1 h; omega
                 omega), cnF, jG5 (by omega) (by omega)]
      refine .inl ⟨_, rfl, ⟨lo, m - 1, by rw [show (m : Int) - 1 = ((m - 1 : Nat) : Int) by omega], h1, ?_, by omega⟩, by simp only []; omega⟩
      have : r / n < m := by rw [Nat.div_lt_iff_lt_mul hpos, Nat.mul_comm]; omega
      omega
  · rw [dF (by omega), cnF]
    refine .inr ?_
    congr 3; omega
theorem qJj {N m n : Nat} (hn0 : n ≠ 0) (hm : nl m ≤ 800000) (hn : nl n ≤ 700000) (hN : 2 ^ 64 ≤ N) : jGx N (limbs m) (limbs n) = some (limbs (m / n), limbs (m % n)) := by
  have hpos : 0 < n := Nat.pos_of_ne_zero hn0
  have ha := jQ9 m
  have hal : (limbs m).length ≤ 800000 := hm
  have hvm := jXl m
  generalize limbs m = a at *
  unfold jGx
  rw [jT2 (by omega) (by omega), bS, Int.toNat_natCast]
  obtain ⟨o, ho, h1, hdq, hql, hqv⟩ := jWk (f := jU3 N a (limbs n)) (fun s => ∃ k : Nat, k ≤ a.length ∧ s.2.2 = (k : Int) - 1 ∧ s.1 = limbs (val (a.drop k) % n) ∧ Dig s.2.1 ∧ s.2.1.length = a.length ∧ val (s.2.1.drop k) = val (a.drop k) / n) (fun s => (s.2.2 + 1).toNat)
    (fun o => o.1 = limbs (val a % n) ∧ Dig o.2 ∧ o.2.length = a.length ∧ val o.2 = val a / n) (by
    rintro ⟨rest, q, kk⟩ ⟨k, hk, hs, hr, hdq, hql, hqv⟩
    simp only at hs hr hdq hql hqv; subst hs; subst hr
    unfold jU3
    simp only [jDv, jVd]
    cases k with
    | zero =>
      rw [dF (by omega), cnF]
      exact .inr ⟨_, rfl, by simp, hdq, hql, by simpa using hqv⟩
    | succ k =>
      have hx := jV1 ha k
      have hR : val (a.drop (k + 1)) % n < n := Nat.mod_lt _ hpos
      have hRl : nl (val (a.drop (k + 1)) % n) ≤ nl n := jUn (Nat.le_of_lt hR)
      obtain ⟨sm, sd⟩ := jTh (a := ldg a k) hpos (rfl : val (a.drop (k + 1)) % n = _)
      rw [← jFm] at sm sd
      generalize hX : ldg a k + 65536 * (val (a.drop (k + 1)) % n) = X at *
      have hXn : X / n < 65536 := by
        rw [Nat.div_lt_iff_lt_mul hpos]
        have := Nat.mul_le_mul_left 65536 (show val (a.drop (k + 1)) % n + 1 ≤ n from hR)
        omega
      have hXl : nl X ≤ 700001 := by
        rw [← hX]
        have g1 := jB1 65536 (val (a.drop (k + 1)) % n)
        refine Nat.le_trans (jSy (k := nl n + 1) ?_) (by omega)
        rw [Nat.pow_succ]
        have g2 := Nat.lt_trans hR (jP6 n)
        have g3 := Nat.mul_le_mul_left 65536 (show val (a.drop (k + 1)) % n + 1 ≤ 65536 ^ nl n from g2)
        omega
      have htrim : jWy N ([((ldg a k : Nat) : Int)] ++ limbs (val (a.drop (k + 1)) % n)) = some (limbs X) := by
        rw [jNx (jM7 (jM9 (by omega) (by omega)) (jQ9 _)) (by rw [List.length_append, jW4]; simp; omega) hN, val_append, jXl]
        congr 2
      rw [show ((k + 1 : Nat) : Int) - 1 = (k : Int) by omega, dT (by omega), cnT, jV4 ha (by omega), bS, jK7 (by rw [jW4]; simp; unfold lim; omega), bS, htrim, bS, qHm hn0 (by omega) (by omega) hXn hN, bS, jV4 hdq (by omega), bS, jG5 (n := (k : Int) - 1) (by omega) (by omega), Int.toNat_natCast]
      have hfin : ∃ k' : Nat, k' ≤ a.length ∧ (limbs (X % n), q.set k ((X / n : Nat) : Int), (k : Int) - 1).2.2 = (k' : Int) - 1 ∧ (limbs (X % n), q.set k ((X / n : Nat) : Int), (k : Int) - 1).1 = limbs (val (a.drop k') % n) ∧ Dig (limbs (X % n), q.set k ((X / n : Nat) : Int), (k : Int) - 1).2.1 ∧ (limbs (X % n), q.set k ((X / n : Nat) : Int), (k : Int) - 1).2.1.length = a.length ∧ val ((limbs (X % n), q.set k ((X / n : Nat) : Int), (k : Int) - 1).2.1.drop k') = val (a.drop k') / n :=
        ⟨k, by omega, rfl, by rw [sm], jBy hdq (Int.natCast_nonneg _) (Int.ofNat_lt.2 hXn), by simp [hql], by
          simp only []
          rw [jFm, jWf (by omega), Int.toNat_natCast, jFy (by omega), hqv, sd]⟩
      by_cases hz : X / n = 0
      · rw [dF (by rw [hz]; omega), cnF]
        have hXX : X % n = X := by have := Nat.div_add_mod X n; rw [hz] at this; omega
        rw [hXX] at hfin
        exact .inl ⟨_, rfl, hfin, by simp only []; omega⟩
      · have hd1 := qYr hXn
        have hml := jB1 n (X / n)
        have hle : n * (X / n) ≤ X := Nat.mul_div_le X n
        have hmod : X - n * (X / n) = X % n := by have := Nat.div_add_mod X n; omega
        have hzp : 0 < X / n := Nat.pos_of_ne_zero hz
        rw [dT (Int.natCast_pos.2 hzp), cnT, ← jMv hz hXn, jTj (by omega) (by omega) hN, bS, jTn hle (by omega) hN, bS, hmod]
        exact .inl ⟨_, rfl, hfin, by simp only []; omega⟩) N ([], List.replicate a.length 0, IntKind.i64.wrap ((a.length : Int) - 1)) ⟨a.length, Nat.le_refl _, by simp only []; rw [jG5 (by omega) (by omega)], by simp [val, jZn], jN8 _, by simp, by simp [val]⟩ (by simp only []; rw [jG5 (by omega) (by omega)]; omega)
  rw [ho, bS, jNx hdq (by omega) hN, bS, hqv, h1, hvm]
theorem qBh {N a b : Nat} (ha : nl a ≤ 700000) (hb : nl b ≤ 700000) (hN : 2 ^ 64 ≤ N) : jFj N (limbs a) (limbs b) = some (limbs (Nat.gcd a b)) := by
 unfold jFj
 rw [jH0 (f := jG3 N) (fun s => ∃ x y : Nat, s = (limbs x, limbs y) ∧ nl x ≤ 700000 ∧ nl y ≤ 700000 ∧ Nat.gcd x y = Nat.gcd a b) (fun s => qU9 (val s.1) (val s.2)) (limbs (Nat.gcd a b)) (by
  rintro s ⟨x, y, rfl, hx, hy, hg⟩
  unfold jG3
  simp only [jVd, jW4]
  by_cases hy0 : y = 0
  ·subst hy0
   rw [Nat.gcd_zero_right] at hg
   subst hg
   refine .inr ?_
   rw [jTx]; rfl
  ·have hyp := jRt hy0
   have hml : nl (x % y) ≤ nl y := jUn (Nat.le_of_lt (Nat.mod_lt _ (Nat.pos_of_ne_zero hy0)))
   have hgn : Nat.gcd y (x % y) = Nat.gcd a b := by rw [← hg, Nat.gcd_comm y, ← Nat.gcd_rec, Nat.gcd_comm]
   rw [dT (by omega), cnT, qJj hy0 (by omega) hy hN, bS]
   exact .inl ⟨_, rfl, ⟨y, x % y, rfl, hy, by omega, hgn⟩, by simp only [jXl]; exact qW2 hy0⟩) N _ ⟨a, b, rfl, ha, hb, rfl⟩ (by simp only [jXl]; have := qWz (show nl a ≤ 900000 by omega) (show nl b ≤ 900000 by omega); omega)]
 rfl
theorem jFw {N n : Nat} {s : Bool} (hn : nl n ≤ 1000000) (hN : 2 ^ 64 ≤ N) : jV0 N s (limbs n) = some (I (bif s then -(n : Int) else n)) := by
 unfold jV0
 have hd := jQ9 n
 have := jNy (f := jKp N (limbs n)) (limbs n).length (fun i => (⟨s && decide (n ≠ 0), (limbs n).take i⟩ : jQr)) (⟨s && decide (n ≠ 0), limbs n⟩ : jQr) (by
  intro i hi
  unfold jKp
  have hg := jV1 hd i
  have hi' := hi
  rw [jW4] at hi'
  simp only [jQk, jW4]
  rw [dT (by omega), cnT, jV4 hd hi, bS, jAc, show ((ldg (limbs n) i : Nat) : Int) % 65536 = ((ldg (limbs n) i : Nat) : Int) by omega, jK7 (by simp; unfold lim; omega), bS, jLn (by omega), List.take_succ_eq_append_getElem hi, jN0 hd hi]) (by
  unfold jKp
  simp only [jQk]
  rw [dF (by omega), cnF, List.take_length]) N (by rw [jW4]; omega)
 rw [List.take_zero] at this
 have hneg : (jJj .gtr (List.length (limbs n) : Int) 0) = decide (n ≠ 0) := by
  rw [jVd, jW4, decide_eq_decide]
  constructor
  ·intro h e; rw [e, jTx] at h; omega
  ·intro h; have := jRt h; omega
 rw [hneg, this, ← qG3]; rfl
theorem jD2 {N k : Nat} {x : jQr} (h : Io k x) (hk : k ≤ 900000) (hN : 2 ^ 64 ≤ N) : jVa N x.Limbs = some (limbs (jZl x).natAbs) := by
 have := h.ll
 rw [jW2]; exact qUp h.dl (by omega) hN
theorem jS1 {N k l : Nat} {x y : jQr} (hx : Io k x) (hy : Io l y) (hk : k + l ≤ 900000) (hN : 2 ^ 64 ≤ N) : jK0 N x y = some (I (jZl x * jZl y)) := by
 unfold jK0
 have h1 := hx.nl
 have h2 := hy.nl
 have h3 := jB1 (jZl x).natAbs (jZl y).natAbs
 rw [jD2 hx (by omega) hN, bS, jD2 hy (by omega) hN, bS, jTj (by omega) (by omega) hN, bS, jFw (by omega) hN, bS]
 congr 2
 rw [jW2, jW2]
 unfold jZl
 cases x.Neg <;> cases y.Neg <;> simp [Int.neg_mul, Int.mul_neg]
theorem qH0 {N k l : Nat} {x y : jQr} (hx : Io k x) (hy : Io l y) (hk : k ≤ 800000) (hl : l ≤ 800000) (hN : 2 ^ 64 ≤ N) : jFz N x y = some (I (jZl x + jZl y)) := by
  unfold jFz
  have h1 := hx.nl
  have h2 := hy.nl
  rw [jD2 hx (by omega) hN, bS, jD2 hy (by omega) hN, bS]
  rw [jW2] at *
  rw [jW2] at *
  have h3 := qX8 (val x.Limbs) (val y.Limbs)
  by_cases hs : x.Neg = y.Neg
  · rw [show (x.Neg == y.Neg) = true by rw [hs]; simp, cnT, qUj (by omega) (by omega) hN, bS, jFw (by omega) hN, bS]
    congr 2
    unfold jZl
    rw [hs]
    cases y.Neg <;> simp <;> omega
  · rw [show (x.Neg == y.Neg) = false by simpa using hs, cnF]
    obtain ⟨c, hc, hclt, hceq⟩ := jT4 (N := N) (a := val x.Limbs) (b := val y.Limbs) (by omega) (by omega) hN
    rw [hc, bS, jDv]
    by_cases hlt : val x.Limbs < val y.Limbs
    · have h4 : nl (val y.Limbs - val x.Limbs) ≤ nl (val y.Limbs) := jUn (by omega)
      rw [dF (by have := hclt.2 hlt; omega), cnF, jTn (by omega) (by omega) hN, bS, jFw (by omega) hN, bS]
      congr 2
      unfold jZl
      cases hxn : x.Neg <;> cases hyn : y.Neg <;> rw [hxn, hyn] at hs <;> simp at hs ⊢ <;> omega
    · have h4 : nl (val x.Limbs - val y.Limbs) ≤ nl (val x.Limbs) := jUn (by omega)
      rw [dT (by have : ¬ c < 0 := fun h => hlt (hclt.1 h); omega), cnT, jTn (by omega) (by omega) hN, bS, jFw (by omega) hN, bS]
      congr 2
      unfold jZl
      cases hxn : x.Neg <;> cases hyn : y.Neg <;> rw [hxn, hyn] at hs <;> simp at hs ⊢ <;> omega
theorem qK7 {N k : Nat} {x : jQr} (hx : Io k x) (hk : k ≤ 900000) (hN : 2 ^ 64 ≤ N) : jB5 N x = some (jZl x).sign := by
 unfold jB5
 rw [jD2 hx hk hN, bS, jU9, jW4, ← qX0]
 by_cases h : (jZl x).natAbs = 0
 ·rw [h, jTx, if_pos rfl]; rfl
 ·have := jRt h
  rw [dF (by omega), cnF, if_neg h]
  cases x.Neg <;> rfl
theorem rOf_eq {N : Nat} {z : Int} (h0 : -9223372036854775808 ≤ z) (h1 : z ≤ 9223372036854775807) (hN : 2 ^ 64 ≤ N) : jLl N z = some (I z) := by
 unfold jLl
 have hl : nl z.natAbs ≤ 4 := jSy (by omega)
 have hstart : ((bif jJj .lss z 0 then some (IntKind.u64.wrap (0 - IntKind.u64.wrap z)) else some (IntKind.u64.wrap z)) : Option Int) = some ((z.natAbs : Nat) : Int) := by
  rw [jQk]
  by_cases hz : z < 0
  ·rw [dT hz, cnT, IntKind.wrap_u64, IntKind.wrap_u64]; congr 1; omega
  ·rw [dF hz, cnF, IntKind.wrap_u64]; congr 1; omega
 rw [hstart, bS]
 have hloop : jQ1 (jHh N) N ([], ((z.natAbs : Nat) : Int)) = some (limbs z.natAbs) := by
  generalize hn : z.natAbs = n at *
  refine jH0 (fun s => ∃ k : Nat, s.2 = (k : Int) ∧ k ≤ n ∧ s.1 ++ limbs k = limbs n) (fun s => s.2.toNat) (limbs n) ?_ N _ ⟨n, rfl, Nat.le_refl _, by simp⟩ (by simp only []; omega)
  rintro ⟨acc, kk⟩ ⟨k, hs, hk, hv⟩
  simp only at hs hv; subst hs
  unfold jHh
  simp only [jVd]
  by_cases hk0 : k = 0
  ·subst hk0
   refine .inr ?_
   rw [jZn, List.append_nil] at hv
   rw [hv]; rfl
  ·have hlen := congrArg List.length hv
   rw [List.length_append, jW4, jW4] at hlen
   have hkp := jRt hk0
   have hq : jS4 .u64 (k : Int) ((65536 : Nat) : Int) = some ((k / 65536 : Nat) : Int) := quo64 (by decide) (by omega)
   rw [dT (by omega), cnT, show (65536 : Int) = ((65536 : Nat) : Int) from rfl, remN (by decide), bS, jG5 (by omega) (by omega), jK7 (by simp; unfold lim; omega), bS, hq, bS]
   refine .inl ⟨_, rfl, ⟨k / 65536, rfl, by omega, ?_⟩, by simp only []; omega⟩
   rw [← hv, jYz hk0]; simp
 rw [hloop, bS, jFw (by omega) hN, bS]
 congr 2
 rw [jQk]
 by_cases hz : z < 0
 ·rw [dT hz, cnT]; omega
 ·rw [dF hz, cnF]; omega
theorem qZv {N k l : Nat} {a b : jQr} (ha : Io k a) (hb : Io l b) (hk : k ≤ 400000) (hl : l ≤ 400000) (hN : 2 ^ 64 ≤ N) : jKt N a b = some (R ((jZl a : Rat) / ((if jZl b = 0 then 1 else jZl b : Int) : Rat))) := by
  unfold jKt
  have h1 := ha.nl
  have h2 := hb.nl
  rw [jD2 ha (by omega) hN, bS, jD2 hb (by omega) hN, bS]
  simp only [jW4, jU9]
  by_cases hb0 : jZl b = 0
  · rw [hb0, Int.natAbs_zero, jTx, if_pos rfl]
    rw [show decide ((((0 : Nat) : Int)) = 0) = true from rfl, cnT, jFw (by omega) hN, bS, rOf_eq (by omega) (by omega) hN, bS]
    congr 1
    unfold R
    have e : (jZl a : Rat) / ((1 : Int) : Rat) = (jZl a : Rat) := by rw [Rat.intCast_one]; grind
    rw [e, Rat.num_intCast, Rat.den_intCast]
    congr 2
    rw [jW2]; unfold jZl
    cases a.Neg <;> simp
  · have hm0 : (jZl b).natAbs ≠ 0 := by omega
    have hlp := jRt hm0
    have hg0 : Nat.gcd (jZl a).natAbs (jZl b).natAbs ≠ 0 := fun e => hm0 (Nat.eq_zero_of_gcd_eq_zero_right e)
    have hgl : nl (Nat.gcd (jZl a).natAbs (jZl b).natAbs) ≤ nl (jZl b).natAbs := jUn (Nat.gcd_le_right _ (by omega))
    have hda : nl ((jZl a).natAbs / Nat.gcd (jZl a).natAbs (jZl b).natAbs) ≤ nl (jZl a).natAbs := jUn (Nat.div_le_self _ _)
    have hdb : nl ((jZl b).natAbs / Nat.gcd (jZl a).natAbs (jZl b).natAbs) ≤ nl (jZl b).natAbs := jUn (Nat.div_le_self _ _)
    have hR : R ((jZl a : Rat) / (jZl b : Rat)) = ⟨I (bif (!(a.Neg == b.Neg)) then -(((jZl a).natAbs / Nat.gcd (jZl a).natAbs (jZl b).natAbs : Nat) : Int) else (((jZl a).natAbs / Nat.gcd (jZl a).natAbs (jZl b).natAbs : Nat) : Int)), I (((jZl b).natAbs / Nat.gcd (jZl a).natAbs (jZl b).natAbs : Nat) : Int)⟩ := by
      unfold R
      rw [← Rat.divInt_eq_div, Rat.num_divInt, Rat.den_divInt, if_neg hb0]
      have hgc : Int.gcd (jZl b) (jZl a) = Nat.gcd (jZl a).natAbs (jZl b).natAbs := by rw [Int.gcd_eq_natAbs_gcd_natAbs, Nat.gcd_comm]
      rw [hgc]
      have hdvd : ((Nat.gcd (jZl a).natAbs (jZl b).natAbs : Nat) : Int) ∣ ((jZl a).natAbs : Int) := Int.natCast_dvd_natCast.2 (Nat.gcd_dvd_left _ _)
      congr 2
      rw [jW2] at *
      rw [jW2] at *
      generalize Nat.gcd (val a.Limbs) (val b.Limbs) = g at *
      rw [Int.natCast_ediv]
      have hbp : 0 < val b.Limbs := by omega
      unfold jZl
      cases a.Neg <;> cases b.Neg <;> simp only [if_true, Bool.false_eq_true, if_false, Int.sign_neg, Int.sign_eq_one_of_pos (show (0 : Int) < (val b.Limbs : Int) by omega), Int.one_mul, Int.neg_mul, Int.neg_neg, Int.mul_neg] <;> simp [Int.neg_ediv_of_dvd hdvd]
    rw [if_neg hb0, hR, dF (by omega), cnF, qBh (by omega) (by omega) hN, bS, qJj hg0 (by omega) (by omega) hN, bS, qJj hg0 (by omega) (by omega) hN, bS, jFw (by omega) hN, bS, jFw (by omega) hN, bS]
    rfl
theorem qWe {N k l : Nat} {a b : Int} (ha : nl a.natAbs ≤ k) (hb : nl b.natAbs ≤ l) (hk : k ≤ 400000) (hl : l ≤ 400000) (hb0 : b ≠ 0) (hN : 2 ^ 64 ≤ N) : jKt N (I a) (I b) = some (R ((a : Rat) / (b : Rat))) := by
 rw [qZv (Io.I ha) (Io.I hb) hk hl hN, jYm, jYm, if_neg hb0]
theorem jD4 {N k : Nat} {x : jQv} {q : Rat} (h : Qf k x q) (hk : k ≤ 4000000) (hN : 2 ^ 64 ≤ N) : jVs N x = some (R q) := by
 unfold jVs
 rw [qZv h.ion h.iod (by omega) (by omega) hN, ← h.vq]
 rfl
theorem Sz.num {k : Nat} {q : Rat} (h : Sz k q) : nl q.num.natAbs ≤ k / 16 + 1 := qX7 (by unfold Sz at h; omega)
theorem Sz.den {k : Nat} {q : Rat} (h : Sz k q) : nl ((q.den : Int)).natAbs ≤ k / 16 + 1 := qX7 (by unfold Sz at h; rw [Int.natAbs_natCast]; omega)
theorem qVl {N k l : Nat} {x y : jQv} {p q : Rat} (hx : Qf k x p) (hy : Qf l y q) (hk : k + l ≤ 2000000) (hN : 2 ^ 64 ≤ N) : jG1 N x y = some (R (p * q)) := by
 unfold jG1
 have hp := hx.sz; have hq := hy.sz
 have h1 := hp.num; have h2 := hp.den; have h3 := hq.num; have h4 := hq.den
 have hn := jB1 p.num.natAbs q.num.natAbs
 have hd := jB1 ((p.den : Int)).natAbs ((q.den : Int)).natAbs
 rw [← Int.natAbs_mul] at hn hd
 rw [jD4 hx (by omega) hN, bS, jD4 hy (by omega) hN, bS]
 unfold R
 simp only []
 rw [jS1 (Io.I h1) (Io.I h3) (by omega) hN, bS, jS1 (Io.I h2) (Io.I h4) (by omega) hN, bS, jYm, jYm, jYm, jYm, qWe (Nat.le_refl _) (Nat.le_refl _) (by omega) (by omega) (Int.mul_ne_zero (jGa p) (jGa q)) hN, bS]
 congr 1
 have hb1 := jUw (jGa p); have hb2 := jUw (jGa q)
 have e1 := jM5 p; have e2 := jM5 q
 rw [Rat.intCast_mul, Rat.intCast_mul]
 show R _ = R _
 congr 1
 conv => rhs; rw [e1, e2]
 grind
theorem qZe {N k l : Nat} {x y : jQv} {p q : Rat} (hx : Qf k x p) (hy : Qf l y q) (hk : k + l ≤ 2000000) (hN : 2 ^ 64 ≤ N) : jGt N x y = some (R (p + q)) := by
 unfold jGt
 have hp := hx.sz; have hq := hy.sz
 have h1 := hp.num; have h2 := hp.den; have h3 := hq.num; have h4 := hq.den
 have hn1 := jB1 p.num.natAbs ((q.den : Int)).natAbs
 have hn2 := jB1 q.num.natAbs ((p.den : Int)).natAbs
 have hd := jB1 ((p.den : Int)).natAbs ((q.den : Int)).natAbs
 have hn3 := jUn (Int.natAbs_add_le (p.num * (q.den : Int)) (q.num * (p.den : Int)))
 have hn4 := qX8 (p.num * (q.den : Int)).natAbs (q.num * (p.den : Int)).natAbs
 rw [← Int.natAbs_mul] at hn1 hn2 hd
 rw [jD4 hx (by omega) hN, bS, jD4 hy (by omega) hN, bS]
 unfold R
 simp only []
 rw [jS1 (Io.I h1) (Io.I h4) (by omega) hN, bS, jS1 (Io.I h3) (Io.I h2) (by omega) hN, bS, jYm, jYm, jYm, jYm]
 rw [qH0 (Io.I (Nat.le_refl _)) (Io.I (Nat.le_refl _)) (by omega) (by omega) hN, bS, jS1 (Io.I h2) (Io.I h4) (by omega) hN, bS, jYm, jYm, jYm, jYm, qWe (Nat.le_refl _) (Nat.le_refl _) (by omega) (by omega) (Int.mul_ne_zero (jGa p) (jGa q)) hN, bS]
 congr 1
 have hb1 := jUw (jGa p); have hb2 := jUw (jGa q)
 have e1 := jM5 p; have e2 := jM5 q
 rw [Rat.intCast_mul, Rat.intCast_add, Rat.intCast_mul, Rat.intCast_mul]
 show R _ = R _
 congr 1
 conv => rhs; rw [e1, e2]
 grind
theorem qQ9 {N k : Nat} {x : jQv} {q : Rat} (h : Qf k x q) (hk : k ≤ 2000000) (hN : 2 ^ 64 ≤ N) : jUc N x = some (qX2 q) := by
 unfold jUc
 have h1 := h.sz.num
 rw [jD4 h (by omega) hN, bS]
 unfold R
 simp only []
 rw [qK7 (Io.I h1) (by omega) hN, bS, jYm, qZq]
end Go.KB
