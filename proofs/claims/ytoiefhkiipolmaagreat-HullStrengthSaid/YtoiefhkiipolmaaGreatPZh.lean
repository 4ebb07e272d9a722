/- Plain laws of the reference's long arithmetic: natural numbers. Plain laws of the reference's long arithmetic: quotients, integers, fractions. No condition. -/
import Derived.Test.YtoiefhkiipolmaaGreatPZc
namespace Go.KB
set_option linter.unusedVariables false
theorem qDx {a g : Nat} (h : a < 9223372036854775808) (h0 : g ≠ 0) : jT4 .i64 (a : Int) (g : Int) = some ((a / g : Nat) : Int) := by
 unfold jT4
 have := Nat.div_le_self a g
 rw [if_neg (by omega), ← Int.ofNat_tdiv, w64n (by omega)]
theorem qKw {l : List Int} {n : Nat} (hd : Dig l) (hn : n ≤ l.length) (h : n = 0 ∨ ldg l (n - 1) ≠ 0) : Norm (l.take n) := by
 refine ⟨jGf hd n, fun hne => ?_⟩
 have hlen : (l.take n).length = n := by rw [List.length_take]; omega
 have h0 : n ≠ 0 := fun e => by subst e; simp at hne
 rw [List.getLast_eq_getElem]
 have h1 : ldg l (n - 1) ≠ 0 := h.resolve_left h0
 have h2 : (l.take n)[(l.take n).length - 1]'(by omega) = l[n - 1]'(by omega) := by rw [List.getElem_take]; congr 1; omega
 rw [h2]
 rw [jNe (by omega)] at h1
 omega
theorem jN0 {N : Nat} {l : List Int} (hd : Dig l) (hl : l.length ≤ 2000000) (hN : 2 ^ 64 ≤ N) : jWn N l = some (limbs (val l)) := by
  unfold jWn
  obtain ⟨o, ho, n, hn, rfl, hv, hz⟩ := jWb (f := jGv N l) (fun s => ∃ n : Nat, n ≤ l.length ∧ s = (n : Int) ∧ val (l.take n) = val l) (fun s => s.toNat) (fun o => ∃ n : Nat, n ≤ l.length ∧ o = (n : Int) ∧ val (l.take n) = val l ∧ (n = 0 ∨ ldg l (n - 1) ≠ 0)) (by
    rintro s ⟨n, hn, rfl, hv⟩
    unfold jGv
    cases n with
    | zero =>
      refine .inr ⟨0, ?_, 0, by omega, rfl, hv, .inl rfl⟩
      rfl
    | succ n =>
      have e1 : IntKind.i64.wrap (((n + 1 : Nat) : Int) - 1) = ((n : Nat) : Int) := by rw [jHv (by omega) (by omega)]; omega
      rw [jVm, dT (by omega), cnT, e1, jV6 hd (by omega), bS, Bool.true_and, jHd]
      by_cases h0 : ldg l n = 0
      · rw [dT (by omega), cnT]
        refine .inl ⟨_, rfl, ⟨n, by omega, rfl, ?_⟩, by omega⟩
        rw [jQh, h0] at hv; simpa using hv
      · rw [dF (by omega), cnF]
        exact .inr ⟨_, rfl, n + 1, hn, rfl, hv, .inr h0⟩) N _ ⟨l.length, Nat.le_refl _, rfl, by rw [List.take_length]⟩ (by omega)
  rw [ho, bS, qJg hn, bS, jK8 (by simp; unfold lim; omega), bS, List.nil_append, ← hv, qQn (qKw hd hn hz)]
theorem jRz {N i : Nat} {l : List Int} (hd : Dig l) : jY7 N l (i : Int) = some ((ldg l i : Nat) : Int) := by
 unfold jY7
 by_cases h : i < l.length
 ·rw [jQy, dT (by omega), cnT, jV6 hd h]; rfl
 ·rw [jQy, dF (by omega), cnF, jFt (by omega)]; rfl
theorem qGj {N : Nat} {l : List Int} (hd : Dig l) (hl : l.length ≤ 1000000) (hN : 2 ^ 64 ≤ N) : jVf N l = some (limbs (val l)) := by
 unfold jVf
 have := jLc (f := jK4 N l) l.length (fun i => l.take i) l (by
  intro i hi
  unfold jK4
  have hg := jV5 hd i
  simp (disch := omega) only [jQy, dT, cnT, jV6 hd, bS, jHv]
  rw [jK8 (by simp; unfold lim; omega), bS, List.take_succ_eq_append_getElem hi, jP0 hd hi]
  rfl) (by
  unfold jK4
  simp (disch := omega) only [jQy, dF, cnF, List.take_length]) N (by omega)
 rw [List.take_zero] at this
 rw [this, bS, jN0 hd (by omega) hN]; rfl
theorem qGn {N m n : Nat} (hm : nl m ≤ 900000) (hn : nl n ≤ 900000) (hN : 2 ^ 64 ≤ N) : jDn N (limbs m) (limbs n) = some (limbs (m + n)) := by
  have ha := jXx m
  have hb := jXx n
  have hal : (limbs m).length ≤ 900000 := hm
  have hbl : (limbs n).length ≤ 900000 := hn
  have hvm := jXs m
  have hvn := jXs n
  generalize limbs m = a at *
  generalize limbs n = b at *
  unfold jDn
  obtain ⟨o, ho, hd, hlen, hv⟩ := jWb (f := jGg N a b) (fun s => ∃ i c : Nat, i ≤ 900001 ∧ c < 2 ∧ s.2 = ((c : Int), (i : Int)) ∧ Dig s.1 ∧ s.1.length = i ∧ val s.1 + 65536 ^ i * c = val (a.take i) + val (b.take i) ∧ (i = 900001 → c = 0)) (fun s => 900002 - s.2.2.toNat)
    (fun o => Dig o ∧ o.length ≤ 900001 ∧ val o = val a + val b) (by
    rintro ⟨acc, cc, ii⟩ ⟨i, c, hi, hc, hs, hd, hlen, hv, hz⟩
    simp only [Prod.mk.injEq] at hs hd hlen hv; obtain ⟨rfl, rfl⟩ := hs
    unfold jGg
    simp only [jQy, jVm]
    by_cases hgo : i < a.length ∨ i < b.length ∨ 0 < c
    · have hx := jV5 ha i
      have hy := jV5 hb i
      have hcond : ((decide ((i : Int) < (a.length : Int)) || decide ((i : Int) < (b.length : Int))) || decide ((0 : Int) < (c : Int))) = true := by
        simp only [Bool.or_eq_true, decide_eq_true_eq]; omega
      have hile : i ≤ 900000 := by omega
      rw [hcond, cnT, jRz ha, bS, jRz hb, bS]
      have e1 : IntKind.i64.wrap (IntKind.i64.wrap (((ldg a i : Nat) : Int) + ((ldg b i : Nat) : Int)) + (c : Int)) = ((ldg a i + ldg b i + c : Nat) : Int) := by
        rw [jHv (n := ((ldg a i : Nat) : Int) + ((ldg b i : Nat) : Int)) (by omega) (by omega), jHv (by omega) (by omega)]; omega
      rw [e1, show (65536 : Int) = ((65536 : Nat) : Int) from rfl, remN (by decide), bS, jK8 (by simp; unfold lim; omega), bS, qDx (by omega) (by decide), bS, jLn (by omega)]
      refine .inl ⟨_, rfl, ⟨i + 1, (ldg a i + ldg b i + c) / 65536, by omega, by omega, rfl, jM5 hd (jM6 (by omega) (by omega)), by simp [hlen], ?_, ?_⟩, by simp; omega⟩
      · rw [jRv, jQh, jQh, hlen, Int.toNat_natCast, Nat.pow_succ]
        have h2 := Nat.mod_add_div (ldg a i + ldg b i + c) 65536
        generalize (ldg a i + ldg b i + c) % 65536 = mm at *
        generalize (ldg a i + ldg b i + c) / 65536 = dd at *
        generalize 65536 ^ i = P at *
        have h3 : P * (mm + 65536 * dd) = P * (ldg a i + ldg b i + c) := by rw [h2]
        clear e1 hcond
        grind
      · intro h
        rw [jFt (l := a) (by omega), jFt (l := b) (by omega)]; omega
    · have hcond : ((decide ((i : Int) < (a.length : Int)) || decide ((i : Int) < (b.length : Int))) || decide ((0 : Int) < (c : Int))) = false := by
        simp only [Bool.or_eq_false_iff, decide_eq_false_iff_not]; omega
      rw [hcond, cnF]
      refine .inr ⟨_, rfl, hd, by omega, ?_⟩
      rw [List.take_of_length_le (by omega), List.take_of_length_le (by omega), show c = 0 by omega] at hv
      simpa using hv) N ([], 0, 0) ⟨0, 0, by omega, by omega, rfl, qZ2, rfl, by simp [val], by omega⟩ (by simp only []; omega)
  rw [ho, bS, jN0 hd (by omega) hN, hv, hvm, hvn]; rfl
theorem jCh {N m n : Nat} (hle : n ≤ m) (hm : nl m ≤ 900000) (hN : 2 ^ 64 ≤ N) : jK9 N (limbs m) (limbs n) = some (limbs (m - n)) := by
  have ha := jXx m
  have hb := jXx n
  have hbl : (limbs n).length ≤ (limbs m).length := jU5 hle
  have hal : (limbs m).length ≤ 900000 := hm
  have hvm := jXs m
  have hvn := jXs n
  generalize limbs m = a at *
  generalize limbs n = b at *
  unfold jK9
  obtain ⟨o, ho, hd, hlen, hv⟩ := jWb (f := jUh N a b) (fun s => ∃ i c : Nat, i ≤ a.length ∧ c < 2 ∧ s.2 = ((c : Int), (i : Int)) ∧ Dig s.1 ∧ s.1.length = i ∧ val s.1 + val (b.take i) = val (a.take i) + 65536 ^ i * c) (fun s => a.length - s.2.2.toNat)
    (fun o => Dig o ∧ o.length = a.length ∧ ∃ c : Nat, c < 2 ∧ val o + val b = val a + 65536 ^ a.length * c) (by
    rintro ⟨acc, cc, ii⟩ ⟨i, c, hi, hc, hs, hd, hlen, hv⟩
    simp only [Prod.mk.injEq] at hs hd hlen hv; obtain ⟨rfl, rfl⟩ := hs
    unfold jUh
    simp only [jQy]
    by_cases hlt : i < a.length
    · have hx := jV5 ha i
      have hy := jV5 hb i
      have e1 : IntKind.i64.wrap (IntKind.i64.wrap (((ldg a i : Nat) : Int) - ((ldg b i : Nat) : Int)) - (c : Int)) = (((ldg a i : Nat) : Int) - ((ldg b i : Nat) : Int) - (c : Int)) := by
        rw [jHv (n := ((ldg a i : Nat) : Int) - ((ldg b i : Nat) : Int)) (by omega) (by omega), jHv (by omega) (by omega)]
      rw [dT (by omega), cnT, jV6 ha hlt, bS, jRz hb, bS, e1]
      by_cases hneg : ldg a i < ldg b i + c
      · rw [dT (by omega), cnT, jHv (n := ((ldg a i : Nat) : Int) - ((ldg b i : Nat) : Int) - (c : Int) + 65536) (by omega) (by omega), jK8 (by simp; unfold lim; omega), bS, jLn (by omega)]
        refine .inl ⟨_, rfl, ⟨i + 1, 1, by omega, by omega, rfl, jM5 hd (jM6 (by omega) (by omega)), by simp [hlen], ?_⟩, by simp; omega⟩
        rw [jRv, jQh, jQh, hlen, Nat.pow_succ]
        have e2 : (((ldg a i : Nat) : Int) - ((ldg b i : Nat) : Int) - (c : Int) + 65536).toNat + ldg b i + c = ldg a i + 65536 := by omega
        generalize (((ldg a i : Nat) : Int) - ((ldg b i : Nat) : Int) - (c : Int) + 65536).toNat = z at *
        generalize 65536 ^ i = P at *
        have h3 : P * (z + ldg b i + c) = P * (ldg a i + 65536) := by rw [e2]
        clear e1
        grind
      · rw [dF (by omega), cnF, jK8 (by simp; unfold lim; omega), bS, jLn (by omega)]
        refine .inl ⟨_, rfl, ⟨i + 1, 0, by omega, by omega, rfl, jM5 hd (jM6 (by omega) (by omega)), by simp [hlen], ?_⟩, by simp; omega⟩
        rw [jRv, jQh, jQh, hlen, Nat.pow_succ]
        have e2 : (((ldg a i : Nat) : Int) - ((ldg b i : Nat) : Int) - (c : Int)).toNat + ldg b i + c = ldg a i := by omega
        generalize (((ldg a i : Nat) : Int) - ((ldg b i : Nat) : Int) - (c : Int)).toNat = z at *
        generalize 65536 ^ i = P at *
        have h3 : P * (z + ldg b i + c) = P * (ldg a i) := by rw [e2]
        clear e1
        grind
    · obtain rfl : i = a.length := by omega
      rw [dF (by omega), cnF]
      refine .inr ⟨_, rfl, hd, hlen, c, hc, ?_⟩
      rw [List.take_of_length_le hbl, List.take_length] at hv; exact hv) N ([], 0, 0) ⟨0, 0, by omega, by omega, rfl, qZ2, rfl, by simp [val]⟩ (by simp only []; omega)
  obtain ⟨c, hc, hv⟩ := hv
  have h1 := jGr hd
  rw [hlen] at h1
  have hc0 : c = 0 := by
    rcases Nat.lt_or_ge c 1 with h | h
    · omega
    · obtain rfl : c = 1 := by omega
      omega
  subst hc0
  rw [ho, bS, jN0 hd (by omega) hN, show val o = m - n by omega]; rfl
theorem qQ4 {N i x : Nat} {a b out0 : List Int} (ha : Dig a) (hia : i < a.length) (hxa : ldg a i = x) (hb : Dig b) (ho : Dig out0) (hlen : i + b.length < out0.length) (hl : out0.length ≤ 2000000) (hz : ldg out0 (i + b.length) = 0) (hN : 2 ^ 64 ≤ N) :
    ∃ o, jQ7 (jUp N a b (out0, (i : Int))) N (out0, 0, 0) = some o ∧ Dig o ∧ o.length = out0.length ∧ val o = val out0 + 65536 ^ i * (x * val b) := by
  have hx := jV5 ha i
  rw [hxa] at hx
  refine jWb (fun s => ∃ k c : Nat, k ≤ b.length + 1 ∧ c < 65536 ∧ s.2 = ((c : Int), (k : Int)) ∧ Dig s.1 ∧ s.1.length = out0.length ∧ (k ≤ b.length → ldg s.1 (i + b.length) = 0) ∧ (k = b.length + 1 → c = 0) ∧ val s.1 + 65536 ^ (i + k) * c = val out0 + 65536 ^ i * (x * val (b.take k))) (fun s => b.length + 1 - s.2.2.toNat) _ ?_ N _ ⟨0, 0, by omega, by omega, rfl, ho, rfl, fun _ => hz, by omega, by simp [val]⟩ (by simp only []; omega)
  rintro ⟨out, cc, kk⟩ ⟨k, c, hk, hc, hs, hd, hlo, hz', hc0, hv⟩
  simp only [Prod.mk.injEq] at hs hd hlo hz' hv; obtain ⟨rfl, rfl⟩ := hs
  unfold jUp
  simp only [jQy, jVm]
  by_cases hgo : k < b.length ∨ 0 < c
  · have hcond : (decide ((k : Int) < (b.length : Int)) || decide ((0 : Int) < (c : Int))) = true := by simp only [Bool.or_eq_true, decide_eq_true_eq]; omega
    have hkb : k ≤ b.length := by omega
    have hy := jV5 hb k
    have hu := jV5 hd (i + k)
    have hxy := jL1 hx hy
    have hik : IntKind.i64.wrap ((i : Int) + (k : Int)) = ((i + k : Nat) : Int) := by rw [jHv (by omega) (by omega)]; omega
    have e1 : IntKind.i64.wrap (IntKind.i64.wrap (((ldg out (i + k) : Nat) : Int) + IntKind.i64.wrap (((ldg a i : Nat) : Int) * ((ldg b k : Nat) : Int))) + (c : Int)) = ((ldg out (i + k) + x * ldg b k + c : Nat) : Int) := by
      rw [hxa, ← Int.natCast_mul, jHv (n := ((x * ldg b k : Nat) : Int)) (by omega) (by omega), jHv (n := ((ldg out (i + k) : Nat) : Int) + ((x * ldg b k : Nat) : Int)) (by omega) (by omega), jHv (by omega) (by omega)]; omega
    rw [hcond, cnT, hik, jV6 hd (by omega), bS, jV6 ha hia, bS, jRz hb, bS, e1, show (65536 : Int) = ((65536 : Nat) : Int) from rfl, remN (by decide), bS, bS, qDx (by omega) (by decide), bS, jLn (by omega), Int.toNat_natCast]
    refine .inl ⟨_, rfl, ⟨k + 1, (ldg out (i + k) + x * ldg b k + c) / 65536, by omega, by omega, rfl, jB1 hd (by omega) (by omega), by simp [hlo], ?_, ?_, ?_⟩, by simp only []; omega⟩
    · intro h; rw [jSz (by omega)]; exact hz' (by omega)
    · intro h
      obtain rfl : k = b.length := by omega
      rw [hz' (Nat.le_refl _), jFt (l := b) (Nat.le_refl _)]; omega
    · have h1 := qX9 (d := (((ldg out (i + k) + x * ldg b k + c) % 65536 : Nat) : Int)) (show i + k < out.length by omega)
      rw [Int.toNat_natCast] at h1
      rw [jQh]
      have h2 := Nat.mod_add_div (ldg out (i + k) + x * ldg b k + c) 65536
      rw [show i + (k + 1) = i + k + 1 by omega, Nat.pow_succ]
      have hP : 65536 ^ (i + k) = 65536 ^ i * 65536 ^ k := Nat.pow_add _ _ _
      generalize val (out.set (i + k) (((ldg out (i + k) + x * ldg b k + c) % 65536 : Nat) : Int)) = V at *
      generalize (ldg out (i + k) + x * ldg b k + c) % 65536 = m at *
      generalize (ldg out (i + k) + x * ldg b k + c) / 65536 = q at *
      generalize 65536 ^ (i + k) = P at *
      generalize ldg out (i + k) = u at *
      generalize ldg b k = y at *
      generalize 65536 ^ k = Q at *
      generalize 65536 ^ i = RR at *
      have h3 : P * (m + 65536 * q) = P * (u + x * y + c) := by rw [h2]
      subst hP
      clear e1 hcond hik
      grind
  · have hcond : (decide ((k : Int) < (b.length : Int)) || decide ((0 : Int) < (c : Int))) = false := by simp only [Bool.or_eq_false_iff, decide_eq_false_iff_not]; omega
    rw [hcond, cnF]
    refine .inr ⟨_, rfl, hd, hlo, ?_⟩
    rw [List.take_of_length_le (by omega), show c = 0 by omega] at hv
    simpa using hv
theorem jTl {N m n : Nat} (hm : nl m ≤ 900000) (hn : nl n ≤ 900000) (hN : 2 ^ 64 ≤ N) : jUv N (limbs m) (limbs n) = some (limbs (m * n)) := by
  have ha := jXx m
  have hb := jXx n
  have hal : (limbs m).length ≤ 900000 := hm
  have hbl : (limbs n).length ≤ 900000 := hn
  have hvm := jXs m
  have hvn := jXs n
  generalize limbs m = a at *
  generalize limbs n = b at *
  unfold jUv
  rw [jHv (n := (a.length : Int) + (b.length : Int)) (by omega) (by omega), jHv (by omega) (by omega), jCv (by omega) (by omega), bS, show ((a.length : Int) + (b.length : Int) + 1).toNat = a.length + b.length + 1 by omega]
  obtain ⟨o, ho, hd, hlen, hv⟩ := jWb (f := jUt N a b) (fun s => ∃ i : Nat, i ≤ a.length ∧ s.2 = (i : Int) ∧ Dig s.1 ∧ s.1.length = a.length + b.length + 1 ∧ val s.1 = val (a.take i) * val b) (fun s => a.length - s.2.toNat)
    (fun o => Dig o ∧ o.length = a.length + b.length + 1 ∧ val o = val a * val b) (by
    rintro ⟨out, ii⟩ ⟨i, hi, hs, hd, hlen, hv⟩
    simp only at hs hd hlen hv; subst hs
    unfold jUt
    simp only [jQy]
    by_cases hlt : i < a.length
    · have hbd : val (a.take i) * val b < 65536 ^ (i + b.length) := by
        have h1 := jGr (jGf ha i)
        have h2 : 65536 ^ (a.take i).length ≤ 65536 ^ i := Nat.pow_le_pow_right (by decide) (by rw [List.length_take]; omega)
        rw [Nat.pow_add]
        exact Nat.mul_lt_mul'' (by omega) (jGr hb)
      obtain ⟨o, ho, hd', hlen', hv'⟩ := qQ4 (N := N) (i := i) ha hlt rfl hb hd (by omega) (by omega) (qVd (by rw [hv]; exact hbd)) hN
      rw [dT (by omega), cnT, ho, bS, jLn (by omega)]
      refine .inl ⟨_, rfl, ⟨i + 1, by omega, rfl, hd', hlen'.trans hlen, ?_⟩, by simp; omega⟩
      rw [hv', hv, jQh]; grind
    · obtain rfl : i = a.length := by omega
      rw [dF (by omega), cnF]
      refine .inr ⟨_, rfl, hd, hlen, ?_⟩
      rw [List.take_length] at hv; exact hv) N (List.replicate (a.length + b.length + 1) 0, 0) ⟨0, by omega, rfl, jPf _, by simp, by simp [val, qYc]⟩ (by simp only []; omega)
  rw [ho, bS, jN0 hd (by omega) hN, hv, hvm, hvn]; rfl
theorem jTr {N a b : Nat} (ha : nl a ≤ 1000000) (hb : nl b ≤ 1000000) (hN : 2 ^ 64 ≤ N) : ∃ c, jKc N (limbs a) (limbs b) = some c ∧ (c < 0 ↔ a < b) ∧ (c = 0 ↔ a = b) := by
  have hda := jXx a
  have hdb := jXx b
  unfold jKc
  simp only [jYj, jV4]
  by_cases hlen : nl a = nl b
  · rw [hlen, dT rfl, Bool.not_true, cnF]
    obtain ⟨o, ho, hp⟩ := jWb (f := jY1 N (limbs a) (limbs b)) (fun s => ∃ k : Nat, k ≤ nl b ∧ s = (k : Int) - 1 ∧ (limbs a).drop k = (limbs b).drop k) (fun s => (s + 1).toNat)
      (fun o => match o with | .inl _ => a = b | .inr c => (c < 0 ↔ a < b) ∧ (c = 0 ↔ a = b)) (by
      rintro s ⟨k, hk, rfl, he⟩
      unfold jY1
      simp only [jFs, jV4]
      cases k with
      | zero =>
        rw [dF (by omega), cnF]
        refine .inr ⟨_, rfl, ?_⟩
        have : limbs a = limbs b := by simpa using he
        show a = b
        rw [← jXs a, ← jXs b, this]
      | succ k =>
        have hxa := jV5 hda k
        have hxb := jV5 hdb k
        have hka : k < (limbs a).length := by rw [jYj]; omega
        have hkb : k < (limbs b).length := by rw [jYj]; omega
        rw [show ((k + 1 : Nat) : Int) - 1 = (k : Int) by omega, dT (by omega), cnT, jV6 hda hka, bS, jV6 hdb hkb, bS]
        by_cases hne : ldg (limbs a) k = ldg (limbs b) k
        · rw [dT (by omega), Bool.not_true, cnF, jHv (by omega) (by omega)]
          refine .inl ⟨_, rfl, ⟨k, by omega, rfl, ?_⟩, by omega⟩
          rw [List.drop_eq_getElem_cons hka, List.drop_eq_getElem_cons hkb, he, jP0 hda hka, jP0 hdb hkb, hne]
        · rw [dF (by omega), Bool.not_false, cnT, bS, bS, jHv (by omega) (by omega)]
          refine .inr ⟨_, rfl, ?_⟩
          have key : ∀ {x y : Nat}, (hx : k < (limbs x).length) → (hy : k < (limbs y).length) → (limbs x).drop (k + 1) = (limbs y).drop (k + 1) → ldg (limbs x) k < ldg (limbs y) k → x < y := by
            intro x y hx hy hdr hlt
            have := jCb (jXx x) (jXx y) hx hy hdr (by rw [jP0 (jXx x) hx, jP0 (jXx y) hy]; omega)
            rwa [jXs, jXs] at this
          rcases Nat.lt_or_gt_of_ne hne with h | h
          · have := key hka hkb he h
            exact ⟨⟨fun _ => this, fun _ => by omega⟩, ⟨fun _ => by omega, fun _ => by omega⟩⟩
          · have := key hkb hka he.symm h
            exact ⟨⟨fun _ => by omega, fun _ => by omega⟩, ⟨fun _ => by omega, fun _ => by omega⟩⟩) N (IntKind.i64.wrap (((nl b : Nat) : Int) - 1)) ⟨nl b, Nat.le_refl _, by rw [jHv (by omega) (by omega)], by rw [List.drop_of_length_le (by rw [jYj]; omega), List.drop_of_length_le (by rw [jYj]; omega)]⟩ (by rw [jHv (by omega) (by omega)]; omega)
    rw [ho, bS]
    cases o with
    | inl u => exact ⟨0, rfl, ⟨fun h => by omega, fun h => by have : a = b := hp; omega⟩, ⟨fun _ => hp, fun _ => rfl⟩⟩
    | inr c => exact ⟨c, rfl, hp⟩
  · rw [dF (by omega), Bool.not_false, cnT, jHv (by omega) (by omega)]
    refine ⟨_, rfl, ?_⟩
    have k1 : nl a < nl b → a < b := fun h => jF9 h
    have k2 : nl b < nl a → b < a := fun h => jF9 h
    have k3 : a = b → nl a = nl b := fun h => by rw [h]
    constructor <;> constructor <;> intro h <;> omega
end Go.KB
namespace Go.KB
set_option linter.unusedVariables false
theorem qY9 {m : Nat} (h : m < 65536) : nl m ≤ 1 := jCg (by simpa using h)
theorem qDd {N n r : Nat} (hn0 : n ≠ 0) (hn : nl n ≤ 800000) (hr : nl r ≤ 900000) (hd : r / n < 65536) (hN : 2 ^ 64 ≤ N) :
    jQ7 (jGy N (limbs n) (limbs r)) N (0, 65535) = some ((r / n : Nat) : Int) := by
  have hpos : 0 < n := Nat.pos_of_ne_zero hn0
  refine jH8 (fun s => ∃ lo hi : Nat, s = ((lo : Int), (hi : Int)) ∧ lo ≤ r / n ∧ r / n ≤ hi ∧ hi < 65536) (fun s => (s.2 - s.1).toNat) _ ?_ N _ ⟨0, 65535, rfl, Nat.zero_le _, Nat.le_of_lt_succ hd, by omega⟩ (by simp only []; omega)
  rintro s ⟨lo, hi, rfl, h1, h2, h3⟩
  unfold jGy
  simp only [jQy, jD2]
  by_cases hlt : lo < hi
  · have e1 : IntKind.i64.wrap (IntKind.i64.wrap ((lo : Int) + (hi : Int)) + 1) = ((lo + hi + 1 : Nat) : Int) := by rw [jHv (n := (lo : Int) + (hi : Int)) (by omega) (by omega), jHv (by omega) (by omega)]; omega
    generalize hm : (lo + hi + 1) / 2 = m
    have hm0 : m ≠ 0 := by omega
    have hml := jBq n m
    have hm1 := qY9 (show m < 65536 by omega)
    obtain ⟨c, hc, hclt, hceq⟩ := jTr (N := N) (a := n * m) (b := r) (by omega) (by omega) hN
    rw [dT (by omega), cnT, e1, show (2 : Int) = ((2 : Nat) : Int) from rfl, qDx (by omega) (by decide), hm, bS, ← jNz hm0 (by omega), jTl (by omega) (by omega) hN, bS, hc, bS]
    by_cases hle : n * m ≤ r
    · rw [dT (by rcases Nat.lt_or_ge (n * m) r with h | h; exact Int.le_of_lt (hclt.2 h); exact Int.le_of_eq (hceq.2 (by omega))), cnT]
      exact .inl ⟨_, rfl, ⟨m, hi, rfl, by rw [Nat.le_div_iff_mul_le hpos, Nat.mul_comm]; exact hle, h2, h3⟩, by simp only []; omega⟩
    · rw [dF (by have g1 : ¬ c < 0 := fun h => by have := hclt.1 h; omega
                 have g2 : ¬ c = 0 := fun h => by have := hceq.1 h; omega
                 omega), cnF, jHv (by omega) (by omega)]
      refine .inl ⟨_, rfl, ⟨lo, m - 1, by rw [show (m : Int) - 1 = ((m - 1 : Nat) : Int) by omega], h1, ?_, by omega⟩, by simp only []; omega⟩
      have : r / n < m := by rw [Nat.div_lt_iff_lt_mul hpos, Nat.mul_comm]; omega
      omega
  · rw [dF (by omega), cnF]
    refine .inr ?_
    congr 3; omega
theorem qJp {N m n : Nat} (hn0 : n ≠ 0) (hm : nl m ≤ 800000) (hn : nl n ≤ 700000) (hN : 2 ^ 64 ≤ N) : jGw N (limbs m) (limbs n) = some (limbs (m / n), limbs (m % n)) := by
  have hpos : 0 < n := Nat.pos_of_ne_zero hn0
  have ha := jXx m
  have hal : (limbs m).length ≤ 800000 := hm
  have hvm := jXs m
  generalize limbs m = a at *
  unfold jGw
  rw [jCv (by omega) (by omega), bS, Int.toNat_natCast]
  obtain ⟨o, ho, h1, hdq, hql, hqv⟩ := jWb (f := jGq N a (limbs n)) (fun s => ∃ k : Nat, k ≤ a.length ∧ s.2.2 = (k : Int) - 1 ∧ s.1 = limbs (val (a.drop k) % n) ∧ Dig s.2.1 ∧ s.2.1.length = a.length ∧ val (s.2.1.drop k) = val (a.drop k) / n) (fun s => (s.2.2 + 1).toNat)
    (fun o => o.1 = limbs (val a % n) ∧ Dig o.2 ∧ o.2.length = a.length ∧ val o.2 = val a / n) (by
    rintro ⟨rest, q, kk⟩ ⟨k, hk, hs, hr, hdq, hql, hqv⟩
    simp only at hs hr hdq hql hqv; subst hs; subst hr
    unfold jGq
    simp only [jFs, jVm]
    cases k with
    | zero =>
      rw [dF (by omega), cnF]
      exact .inr ⟨_, rfl, by simp, hdq, hql, by simpa using hqv⟩
    | succ k =>
      have hx := jV5 ha k
      have hR : val (a.drop (k + 1)) % n < n := Nat.mod_lt _ hpos
      have hRl : nl (val (a.drop (k + 1)) % n) ≤ nl n := jU5 (Nat.le_of_lt hR)
      obtain ⟨sm, sd⟩ := jTu (a := ldg a k) hpos (rfl : val (a.drop (k + 1)) % n = _)
      rw [← jF1] at sm sd
      generalize hX : ldg a k + 65536 * (val (a.drop (k + 1)) % n) = X at *
      have hXn : X / n < 65536 := by
        rw [Nat.div_lt_iff_lt_mul hpos]
        have := Nat.mul_le_mul_left 65536 (show val (a.drop (k + 1)) % n + 1 ≤ n from hR)
        omega
      have hXl : nl X ≤ 700001 := by
        rw [← hX]
        have g1 := jBq 65536 (val (a.drop (k + 1)) % n)
        refine Nat.le_trans (jCg (k := nl n + 1) ?_) (by omega)
        rw [Nat.pow_succ]
        have g2 := Nat.lt_trans hR (jP6 n)
        have g3 := Nat.mul_le_mul_left 65536 (show val (a.drop (k + 1)) % n + 1 ≤ 65536 ^ nl n from g2)
        omega
      have htrim : jWn N ([((ldg a k : Nat) : Int)] ++ limbs (val (a.drop (k + 1)) % n)) = some (limbs X) := by
        rw [jN0 (jM5 (jM6 (by omega) (by omega)) (jXx _)) (by rw [List.length_append, jYj]; simp; omega) hN, val_append, jXs]
        congr 2
      rw [show ((k + 1 : Nat) : Int) - 1 = (k : Int) by omega, dT (by omega), cnT, jV6 ha (by omega), bS, jK8 (by rw [jYj]; simp; unfold lim; omega), bS, htrim, bS, qDd hn0 (by omega) (by omega) hXn hN, bS, jV6 hdq (by omega), bS, jHv (n := (k : Int) - 1) (by omega) (by omega), Int.toNat_natCast]
      have hfin : ∃ k' : Nat, k' ≤ a.length ∧ (limbs (X % n), q.set k ((X / n : Nat) : Int), (k : Int) - 1).2.2 = (k' : Int) - 1 ∧ (limbs (X % n), q.set k ((X / n : Nat) : Int), (k : Int) - 1).1 = limbs (val (a.drop k') % n) ∧ Dig (limbs (X % n), q.set k ((X / n : Nat) : Int), (k : Int) - 1).2.1 ∧ (limbs (X % n), q.set k ((X / n : Nat) : Int), (k : Int) - 1).2.1.length = a.length ∧ val ((limbs (X % n), q.set k ((X / n : Nat) : Int), (k : Int) - 1).2.1.drop k') = val (a.drop k') / n :=
        ⟨k, by omega, rfl, by rw [sm], jB1 hdq (Int.natCast_nonneg _) (Int.ofNat_lt.2 hXn), by simp [hql], by
          simp only []
          rw [jF1, jWr (by omega), Int.toNat_natCast, jF7 (by omega), hqv, sd]⟩
      by_cases hz : X / n = 0
      · rw [dF (by rw [hz]; omega), cnF]
        have hXX : X % n = X := by have := Nat.div_add_mod X n; rw [hz] at this; omega
        rw [hXX] at hfin
        exact .inl ⟨_, rfl, hfin, by simp only []; omega⟩
      · have hd1 := qY9 hXn
        have hml := jBq n (X / n)
        have hle : n * (X / n) ≤ X := Nat.mul_div_le X n
        have hmod : X - n * (X / n) = X % n := by have := Nat.div_add_mod X n; omega
        have hzp : 0 < X / n := Nat.pos_of_ne_zero hz
        rw [dT (Int.natCast_pos.2 hzp), cnT, ← jNz hz hXn, jTl (by omega) (by omega) hN, bS, jCh hle (by omega) hN, bS, hmod]
        exact .inl ⟨_, rfl, hfin, by simp only []; omega⟩) N ([], List.replicate a.length 0, IntKind.i64.wrap ((a.length : Int) - 1)) ⟨a.length, Nat.le_refl _, by simp only []; rw [jHv (by omega) (by omega)], by simp [val, jZ0], jPf _, by simp, by simp [val]⟩ (by simp only []; rw [jHv (by omega) (by omega)]; omega)
  rw [ho, bS, jN0 hdq (by omega) hN, bS, hqv, h1, hvm]
theorem qD7 {N a b : Nat} (ha : nl a ≤ 700000) (hb : nl b ≤ 700000) (hN : 2 ^ 64 ≤ N) : jFr N (limbs a) (limbs b) = some (limbs (Nat.gcd a b)) := by
 unfold jFr
 rw [jH8 (f := jG6 N) (fun s => ∃ x y : Nat, s = (limbs x, limbs y) ∧ nl x ≤ 700000 ∧ nl y ≤ 700000 ∧ Nat.gcd x y = Nat.gcd a b) (fun s => qGu (val s.1) (val s.2)) (limbs (Nat.gcd a b)) (by
  rintro s ⟨x, y, rfl, hx, hy, hg⟩
  unfold jG6
  simp only [jVm, jYj]
  by_cases hy0 : y = 0
  ·subst hy0
   rw [Nat.gcd_zero_right] at hg
   subst hg
   refine .inr ?_
   rw [jCz]; rfl
  ·have hyp := jSr hy0
   have hml : nl (x % y) ≤ nl y := jU5 (Nat.le_of_lt (Nat.mod_lt _ (Nat.pos_of_ne_zero hy0)))
   have hgn : Nat.gcd y (x % y) = Nat.gcd a b := by rw [← hg, Nat.gcd_comm y, ← Nat.gcd_rec, Nat.gcd_comm]
   rw [dT (by omega), cnT, qJp hy0 (by omega) hy hN, bS]
   exact .inl ⟨_, rfl, ⟨y, x % y, rfl, hy, by omega, hgn⟩, by simp only [jXs]; exact qKd hy0⟩) N _ ⟨a, b, rfl, ha, hb, rfl⟩ (by simp only [jXs]; have := qKb (show nl a ≤ 900000 by omega) (show nl b ≤ 900000 by omega); omega)]
 rfl
theorem jFq {N n : Nat} {s : Bool} (hn : nl n ≤ 1000000) (hN : 2 ^ 64 ≤ N) : jVh N s (limbs n) = some (I (bif s then -(n : Int) else n)) := by
 unfold jVh
 have hd := jXx n
 have := jLc (f := jKe N (limbs n)) (limbs n).length (fun i => (⟨s && decide (n ≠ 0), (limbs n).take i⟩ : jQn)) (⟨s && decide (n ≠ 0), limbs n⟩ : jQn) (by
  intro i hi
  unfold jKe
  have hg := jV5 hd i
  have hi' := hi
  rw [jYj] at hi'
  simp only [jQy, jYj]
  rw [dT (by omega), cnT, jV6 hd hi, bS, qJh, show ((ldg (limbs n) i : Nat) : Int) % 65536 = ((ldg (limbs n) i : Nat) : Int) by omega, jK8 (by simp; unfold lim; omega), bS, jLn (by omega), List.take_succ_eq_append_getElem hi, jP0 hd hi]) (by
  unfold jKe
  simp only [jQy]
  rw [dF (by omega), cnF, List.take_length]) N (by rw [jYj]; omega)
 rw [List.take_zero] at this
 have hneg : (jJj .gtr (List.length (limbs n) : Int) 0) = decide (n ≠ 0) := by
  rw [jVm, jYj, decide_eq_decide]
  constructor
  ·intro h e; rw [e, jCz] at h; omega
  ·intro h; have := jSr h; omega
 rw [hneg, this, ← qBu]; rfl
theorem jDp {N k : Nat} {x : jQn} (h : Io k x) (hk : k ≤ 900000) (hN : 2 ^ 64 ≤ N) : jVf N x.Limbs = some (limbs (jZl x).natAbs) := by
 have := h.ll
 rw [jW0]; exact qGj h.dl (by omega) hN
theorem jPt {N k l : Nat} {x y : jQn} (hx : Io k x) (hy : Io l y) (hk : k + l ≤ 900000) (hN : 2 ^ 64 ≤ N) : jYu N x y = some (I (jZl x * jZl y)) := by
 unfold jYu
 have h1 := hx.nl
 have h2 := hy.nl
 have h3 := jBq (jZl x).natAbs (jZl y).natAbs
 rw [jDp hx (by omega) hN, bS, jDp hy (by omega) hN, bS, jTl (by omega) (by omega) hN, bS, jFq (by omega) hN, bS]
 congr 2
 rw [jW0, jW0]
 unfold jZl
 cases x.Neg <;> cases y.Neg <;> simp [Int.neg_mul, Int.mul_neg]
theorem qDe {N k l : Nat} {x y : jQn} (hx : Io k x) (hy : Io l y) (hk : k ≤ 800000) (hl : l ≤ 800000) (hN : 2 ^ 64 ≤ N) : jFm N x y = some (I (jZl x + jZl y)) := by
  unfold jFm
  have h1 := hx.nl
  have h2 := hy.nl
  rw [jDp hx (by omega) hN, bS, jDp hy (by omega) hN, bS]
  rw [jW0] at *
  rw [jW0] at *
  have h3 := qV3 (val x.Limbs) (val y.Limbs)
  by_cases hs : x.Neg = y.Neg
  · rw [show (x.Neg == y.Neg) = true by rw [hs]; simp, cnT, qGn (by omega) (by omega) hN, bS, jFq (by omega) hN, bS]
    congr 2
    unfold jZl
    rw [hs]
    cases y.Neg <;> simp <;> omega
  · rw [show (x.Neg == y.Neg) = false by simpa using hs, cnF]
    obtain ⟨c, hc, hclt, hceq⟩ := jTr (N := N) (a := val x.Limbs) (b := val y.Limbs) (by omega) (by omega) hN
    rw [hc, bS, jFs]
    by_cases hlt : val x.Limbs < val y.Limbs
    · have h4 : nl (val y.Limbs - val x.Limbs) ≤ nl (val y.Limbs) := jU5 (by omega)
      rw [dF (by have := hclt.2 hlt; omega), cnF, jCh (by omega) (by omega) hN, bS, jFq (by omega) hN, bS]
      congr 2
      unfold jZl
      cases hxn : x.Neg <;> cases hyn : y.Neg <;> rw [hxn, hyn] at hs <;> simp at hs ⊢ <;> omega
    · have h4 : nl (val x.Limbs - val y.Limbs) ≤ nl (val x.Limbs) := jU5 (by omega)
      rw [dT (by have : ¬ c < 0 := fun h => hlt (hclt.1 h); omega), cnT, jCh (by omega) (by omega) hN, bS, jFq (by omega) hN, bS]
      congr 2
      unfold jZl
      cases hxn : x.Neg <;> cases hyn : y.Neg <;> rw [hxn, hyn] at hs <;> simp at hs ⊢ <;> omega
theorem qD3 {N k : Nat} {x : jQn} (hx : Io k x) (hk : k ≤ 800000) (hN : 2 ^ 64 ≤ N) : jFa N x = some (I (-jZl x)) := by
 unfold jFa
 have h1 := hx.nl
 rw [jDp hx (by omega) hN, bS, jFq (by omega) hN, bS]
 congr 2
 rw [jW0]
 unfold jZl
 cases x.Neg <;> simp
theorem qHr {N k : Nat} {x : jQn} (hx : Io k x) (hk : k ≤ 900000) (hN : 2 ^ 64 ≤ N) : jDy N x = some (jZl x).sign := by
 unfold jDy
 rw [jDp hx hk hN, bS, jHd, jYj, ← qZ9]
 by_cases h : (jZl x).natAbs = 0
 ·rw [h, jCz, if_pos rfl]; rfl
 ·have := jSr h
  rw [dF (by omega), cnF, if_neg h]
  cases x.Neg <;> rfl
theorem rOf_eq {N : Nat} {z : Int} (h0 : -9223372036854775808 ≤ z) (h1 : z ≤ 9223372036854775807) (hN : 2 ^ 64 ≤ N) : jMx N z = some (I z) := by
 unfold jMx
 have hl : nl z.natAbs ≤ 4 := jCg (by omega)
 have hstart : ((bif jJj .lss z 0 then some (IntKind.u64.wrap (0 - IntKind.u64.wrap z)) else some (IntKind.u64.wrap z)) : Option Int) = some ((z.natAbs : Nat) : Int) := by
  rw [jQy]
  by_cases hz : z < 0
  ·rw [dT hz, cnT, IntKind.wrap_u64, IntKind.wrap_u64]; congr 1; omega
  ·rw [dF hz, cnF, IntKind.wrap_u64]; congr 1; omega
 rw [hstart, bS]
 have hloop : jQ7 (jH2 N) N ([], ((z.natAbs : Nat) : Int)) = some (limbs z.natAbs) := by
  generalize hn : z.natAbs = n at *
  refine jH8 (fun s => ∃ k : Nat, s.2 = (k : Int) ∧ k ≤ n ∧ s.1 ++ limbs k = limbs n) (fun s => s.2.toNat) (limbs n) ?_ N _ ⟨n, rfl, Nat.le_refl _, by simp⟩ (by simp only []; omega)
  rintro ⟨acc, kk⟩ ⟨k, hs, hk, hv⟩
  simp only at hs hv; subst hs
  unfold jH2
  simp only [jVm]
  by_cases hk0 : k = 0
  ·subst hk0
   refine .inr ?_
   rw [jZ0, List.append_nil] at hv
   rw [hv]; rfl
  ·have hlen := congrArg List.length hv
   rw [List.length_append, jYj, jYj] at hlen
   have hkp := jSr hk0
   have hq : jT4 .u64 (k : Int) ((65536 : Nat) : Int) = some ((k / 65536 : Nat) : Int) := quo64 (by decide) (by omega)
   rw [dT (by omega), cnT, show (65536 : Int) = ((65536 : Nat) : Int) from rfl, remN (by decide), bS, jHv (by omega) (by omega), jK8 (by simp; unfold lim; omega), bS, hq, bS]
   refine .inl ⟨_, rfl, ⟨k / 65536, rfl, by omega, ?_⟩, by simp only []; omega⟩
   rw [← hv, jYv hk0]; simp
 rw [hloop, bS, jFq (by omega) hN, bS]
 congr 2
 rw [jQy]
 by_cases hz : z < 0
 ·rw [dT hz, cnT]; omega
 ·rw [dF hz, cnF]; omega
theorem qVw {N k l : Nat} {a b : jQn} (ha : Io k a) (hb : Io l b) (hk : k ≤ 400000) (hl : l ≤ 400000) (hN : 2 ^ 64 ≤ N) : jY2 N a b = some (R ((jZl a : Rat) / ((if jZl b = 0 then 1 else jZl b : Int) : Rat))) := by
  unfold jY2
  have h1 := ha.nl
  have h2 := hb.nl
  rw [jDp ha (by omega) hN, bS, jDp hb (by omega) hN, bS]
  simp only [jYj, jHd]
  by_cases hb0 : jZl b = 0
  · rw [hb0, Int.natAbs_zero, jCz, if_pos rfl]
    rw [show decide ((((0 : Nat) : Int)) = 0) = true from rfl, cnT, jFq (by omega) hN, bS, rOf_eq (by omega) (by omega) hN, bS]
    congr 1
    unfold R
    have e : (jZl a : Rat) / ((1 : Int) : Rat) = (jZl a : Rat) := by rw [Rat.intCast_one]; grind
    rw [e, Rat.num_intCast, Rat.den_intCast]
    congr 2
    rw [jW0]; unfold jZl
    cases a.Neg <;> simp
  · have hm0 : (jZl b).natAbs ≠ 0 := by omega
    have hlp := jSr hm0
    have hg0 : Nat.gcd (jZl a).natAbs (jZl b).natAbs ≠ 0 := fun e => hm0 (Nat.eq_zero_of_gcd_eq_zero_right e)
    have hgl : nl (Nat.gcd (jZl a).natAbs (jZl b).natAbs) ≤ nl (jZl b).natAbs := jU5 (Nat.gcd_le_right _ (by omega))
    have hda : nl ((jZl a).natAbs / Nat.gcd (jZl a).natAbs (jZl b).natAbs) ≤ nl (jZl a).natAbs := jU5 (Nat.div_le_self _ _)
    have hdb : nl ((jZl b).natAbs / Nat.gcd (jZl a).natAbs (jZl b).natAbs) ≤ nl (jZl b).natAbs := jU5 (Nat.div_le_self _ _)
    have hR : R ((jZl a : Rat) / (jZl b : Rat)) = ⟨I (bif (!(a.Neg == b.Neg)) then -(((jZl a).natAbs / Nat.gcd (jZl a).natAbs (jZl b).natAbs : Nat) : Int) else (((jZl a).natAbs / Nat.gcd (jZl a).natAbs (jZl b).natAbs : Nat) : Int)), I (((jZl b).natAbs / Nat.gcd (jZl a).natAbs (jZl b).natAbs : Nat) : Int)⟩ := by
      unfold R
      rw [← Rat.divInt_eq_div, Rat.num_divInt, Rat.den_divInt, if_neg hb0]
      have hgc : Int.gcd (jZl b) (jZl a) = Nat.gcd (jZl a).natAbs (jZl b).natAbs := by rw [Int.gcd_eq_natAbs_gcd_natAbs, Nat.gcd_comm]
      rw [hgc]
      have hdvd : ((Nat.gcd (jZl a).natAbs (jZl b).natAbs : Nat) : Int) ∣ ((jZl a).natAbs : Int) := Int.natCast_dvd_natCast.2 (Nat.gcd_dvd_left _ _)
      congr 2
      rw [jW0] at *
      rw [jW0] at *
      generalize Nat.gcd (val a.Limbs) (val b.Limbs) = g at *
      rw [Int.natCast_ediv]
      have hbp : 0 < val b.Limbs := by omega
      unfold jZl
      cases a.Neg <;> cases b.Neg <;> simp only [if_true, Bool.false_eq_true, if_false, Int.sign_neg, Int.sign_eq_one_of_pos (show (0 : Int) < (val b.Limbs : Int) by omega), Int.one_mul, Int.neg_mul, Int.neg_neg, Int.mul_neg] <;> simp [Int.neg_ediv_of_dvd hdvd]
    rw [if_neg hb0, hR, dF (by omega), cnF, qD7 (by omega) (by omega) hN, bS, qJp hg0 (by omega) (by omega) hN, bS, qJp hg0 (by omega) (by omega) hN, bS, jFq (by omega) hN, bS, jFq (by omega) hN, bS]
    rfl
theorem qZb {N k l : Nat} {a b : Int} (ha : nl a.natAbs ≤ k) (hb : nl b.natAbs ≤ l) (hk : k ≤ 400000) (hl : l ≤ 400000) (hb0 : b ≠ 0) (hN : 2 ^ 64 ≤ N) : jY2 N (I a) (I b) = some (R ((a : Rat) / (b : Rat))) := by
 rw [qVw (Io.I ha) (Io.I hb) hk hl hN, jWl, jWl, if_neg hb0]
theorem jKg {N k : Nat} {x : jQv} {q : Rat} (h : Qf k x q) (hk : k ≤ 4000000) (hN : 2 ^ 64 ≤ N) : jZq N x = some (R q) := by
 unfold jZq
 rw [qVw h.ion h.iod (by omega) (by omega) hN, ← h.vq]
 rfl
theorem Sz.num {k : Nat} {q : Rat} (h : Sz k q) : nl q.num.natAbs ≤ k / 16 + 1 := qVb (by unfold Sz at h; omega)
theorem Sz.den {k : Nat} {q : Rat} (h : Sz k q) : nl ((q.den : Int)).natAbs ≤ k / 16 + 1 := qVb (by unfold Sz at h; rw [Int.natAbs_natCast]; omega)
theorem jHs {N k l : Nat} {x y : jQv} {p q : Rat} (hx : Qf k x p) (hy : Qf l y q) (hk : k + l ≤ 2000000) (hN : 2 ^ 64 ≤ N) : jVv N x y = some (R (p * q)) := by
 unfold jVv
 have hp := hx.sz; have hq := hy.sz
 have h1 := hp.num; have h2 := hp.den; have h3 := hq.num; have h4 := hq.den
 have hn := jBq p.num.natAbs q.num.natAbs
 have hd := jBq ((p.den : Int)).natAbs ((q.den : Int)).natAbs
 rw [← Int.natAbs_mul] at hn hd
 rw [jKg hx (by omega) hN, bS, jKg hy (by omega) hN, bS]
 unfold R
 simp only []
 rw [jPt (Io.I h1) (Io.I h3) (by omega) hN, bS, jPt (Io.I h2) (Io.I h4) (by omega) hN, bS, jWl, jWl, jWl, jWl, qZb (Nat.le_refl _) (Nat.le_refl _) (by omega) (by omega) (Int.mul_ne_zero (jU9 p) (jU9 q)) hN, bS]
 congr 1
 have hb1 := jY8 (jU9 p); have hb2 := jY8 (jU9 q)
 have e1 := jLe p; have e2 := jLe q
 rw [Rat.intCast_mul, Rat.intCast_mul]
 show R _ = R _
 congr 1
 conv => rhs; rw [e1, e2]
 grind
theorem jU1 {N k l : Nat} {x y : jQv} {p q : Rat} (hx : Qf k x p) (hy : Qf l y q) (hk : k + l ≤ 2000000) (hN : 2 ^ 64 ≤ N) : jZr N x y = some (R (p + q)) := by
 unfold jZr
 have hp := hx.sz; have hq := hy.sz
 have h1 := hp.num; have h2 := hp.den; have h3 := hq.num; have h4 := hq.den
 have hn1 := jBq p.num.natAbs ((q.den : Int)).natAbs
 have hn2 := jBq q.num.natAbs ((p.den : Int)).natAbs
 have hd := jBq ((p.den : Int)).natAbs ((q.den : Int)).natAbs
 have hn3 := jU5 (Int.natAbs_add_le (p.num * (q.den : Int)) (q.num * (p.den : Int)))
 have hn4 := qV3 (p.num * (q.den : Int)).natAbs (q.num * (p.den : Int)).natAbs
 rw [← Int.natAbs_mul] at hn1 hn2 hd
 rw [jKg hx (by omega) hN, bS, jKg hy (by omega) hN, bS]
 unfold R
 simp only []
 rw [jPt (Io.I h1) (Io.I h4) (by omega) hN, bS, jPt (Io.I h3) (Io.I h2) (by omega) hN, bS, jWl, jWl, jWl, jWl]
 rw [qDe (Io.I (Nat.le_refl _)) (Io.I (Nat.le_refl _)) (by omega) (by omega) hN, bS, jPt (Io.I h2) (Io.I h4) (by omega) hN, bS, jWl, jWl, jWl, jWl, qZb (Nat.le_refl _) (Nat.le_refl _) (by omega) (by omega) (Int.mul_ne_zero (jU9 p) (jU9 q)) hN, bS]
 congr 1
 have hb1 := jY8 (jU9 p); have hb2 := jY8 (jU9 q)
 have e1 := jLe p; have e2 := jLe q
 rw [Rat.intCast_mul, Rat.intCast_add, Rat.intCast_mul, Rat.intCast_mul]
 show R _ = R _
 congr 1
 conv => rhs; rw [e1, e2]
 grind
theorem qWw {N k : Nat} {x : jQv} {q : Rat} (h : Qf k x q) (hk : k ≤ 2000000) (hN : 2 ^ 64 ≤ N) : jHx N x = some (R (-q)) := by
 unfold jHx
 have h1 := h.sz.num
 rw [jKg h (by omega) hN, bS]
 unfold R
 simp only []
 rw [qD3 (Io.I h1) (by omega) hN, bS, jWl, Rat.neg_num, Rat.neg_den]
theorem jR1 {N k l : Nat} {x y : jQv} {p q : Rat} (hx : Qf k x p) (hy : Qf l y q) (hk : k + l + 17 ≤ 2000000) (hN : 2 ^ 64 ≤ N) : jKw N x y = some (R (p - q)) := by
 unfold jKw
 rw [qWw hy (by omega) hN, bS, jU1 hx (Qf.R hy.sz.neg) (by omega) hN, bS, Rat.sub_eq_add_neg]
theorem jTt {N k : Nat} {x : jQv} {q : Rat} (h : Qf k x q) (hk : k ≤ 2000000) (hN : 2 ^ 64 ≤ N) : jKs N x = some (qU5 q) := by
 unfold jKs
 have h1 := h.sz.num
 rw [jKg h (by omega) hN, bS]
 unfold R
 simp only []
 rw [qHr (Io.I h1) (by omega) hN, bS, jWl, qV6]
theorem qWd {N k l : Nat} {x y : jQv} {p q : Rat} (hx : Qf k x p) (hy : Qf l y q) (hk : k + l + 34 ≤ 2000000) (hN : 2 ^ 64 ≤ N) : jG8 N x y = some (qBw p q) := by
 unfold jG8 qBw
 rw [jR1 hx hy (by omega) hN, bS, jTt (Qf.R (hx.sz.sub hy.sz)) (by omega) hN]
 rfl
theorem jAf {N k l : Nat} {x y : jQv} {p q : Rat} (hx : Qf k x p) (hy : Qf l y q) (hk : k + l ≤ 2000000) (hq0 : q ≠ 0) (hN : 2 ^ 64 ≤ N) : jUa N x y = some (R (p / q)) := by
 unfold jUa
 have hp := hx.sz; have hq := hy.sz
 have h1 := hp.num; have h2 := hp.den; have h3 := hq.num; have h4 := hq.den
 have hn := jBq p.num.natAbs ((q.den : Int)).natAbs
 have hd := jBq ((p.den : Int)).natAbs q.num.natAbs
 rw [← Int.natAbs_mul] at hn hd
 have hqn : q.num ≠ 0 := fun e => hq0 (Rat.num_eq_zero.1 e)
 rw [jKg hx (by omega) hN, bS, jKg hy (by omega) hN, bS]
 unfold R
 simp only []
 rw [jPt (Io.I h1) (Io.I h4) (by omega) hN, bS, jPt (Io.I h2) (Io.I h3) (by omega) hN, bS, jWl, jWl, jWl, jWl, qZb (Nat.le_refl _) (Nat.le_refl _) (by omega) (by omega) (Int.mul_ne_zero (jU9 p) hqn) hN, bS]
 congr 1
 have hb1 := jY8 (jU9 p); have hb2 := jY8 (jU9 q); have hb3 := jY8 hqn
 have e1 := jLe p; have e2 := jLe q
 rw [Rat.intCast_mul, Rat.intCast_mul]
 show R _ = R _
 congr 1
 conv => rhs; rw [e1, e2]
 grind
end Go.KB
