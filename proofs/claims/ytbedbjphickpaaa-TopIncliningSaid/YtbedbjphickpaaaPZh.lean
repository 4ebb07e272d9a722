/- Plain laws of the reference's long arithmetic: natural numbers. Plain laws of the reference's long arithmetic: quotients, integers, fractions. No condition. -/
import Derived.Test.YtbedbjphickpaaaPZc
namespace Go.KB
set_option linter.unusedVariables false
theorem rquoN {a g : Nat} (h : a < 9223372036854775808) (h0 : g ≠ 0) : quoI .i64 (a : Int) (g : Int) = some ((a / g : Nat) : Int) := by
 unfold quoI
 have := Nat.div_le_self a g
 rw [if_neg (by omega), ← Int.ofNat_tdiv, w64n (by omega)]
theorem norm_take {l : List Int} {n : Nat} (hd : Dig l) (hn : n ≤ l.length) (h : n = 0 ∨ ldg l (n - 1) ≠ 0) : Norm (l.take n) := by
 refine ⟨dig_take hd n, fun hne => ?_⟩
 have hlen : (l.take n).length = n := by rw [List.length_take]; omega
 have h0 : n ≠ 0 := fun e => by subst e; simp at hne
 rw [List.getLast_eq_getElem]
 have h1 : ldg l (n - 1) ≠ 0 := h.resolve_left h0
 have h2 : (l.take n)[(l.take n).length - 1]'(by omega) = l[n - 1]'(by omega) := by rw [List.getElem_take]; congr 1; omega
 rw [h2]
 rw [ldg_get (by omega)] at h1
 omega
theorem rtrim_eq {N : Nat} {l : List Int} (hd : Dig l) (hl : l.length ≤ 2000000) (hN : 2 ^ 64 ≤ N) : f_ref01_trim N l = some (limbs (val l)) := by
  unfold f_ref01_trim
  obtain ⟨o, ho, n, hn, rfl, hv, hz⟩ := loopN_of (f := f_ref01_trim_L1 N l) (fun s => ∃ n : Nat, n ≤ l.length ∧ s = (n : Int) ∧ val (l.take n) = val l) (fun s => s.toNat) (fun o => ∃ n : Nat, n ≤ l.length ∧ o = (n : Int) ∧ val (l.take n) = val l ∧ (n = 0 ∨ ldg l (n - 1) ≠ 0)) (by
    rintro s ⟨n, hn, rfl, hv⟩
    unfold f_ref01_trim_L1
    cases n with
    | zero =>
      refine .inr ⟨0, ?_, 0, by omega, rfl, hv, .inl rfl⟩
      rfl
    | succ n =>
      have e1 : IntKind.i64.wrap (((n + 1 : Nat) : Int) - 1) = ((n : Nat) : Int) := by rw [w64i (by omega) (by omega)]; omega
      rw [cmp_gtr, dT (by omega), cond_true, e1, idx_dg hd (by omega), bS, Bool.true_and, cmp_eql]
      by_cases h0 : ldg l n = 0
      · rw [dT (by omega), cond_true]
        refine .inl ⟨_, rfl, ⟨n, by omega, rfl, ?_⟩, by omega⟩
        rw [val_take_succ, h0] at hv; simpa using hv
      · rw [dF (by omega), cond_false]
        exact .inr ⟨_, rfl, n + 1, hn, rfl, hv, .inr h0⟩) N _ ⟨l.length, Nat.le_refl _, rfl, by rw [List.take_length]⟩ (by omega)
  rw [ho, bS, slc_take hn, bS, app_ok (by simp; unfold lim; omega), bS, List.nil_append, ← hv, limbs_val (norm_take hd hn hz)]
theorem rdigit_eq {N i : Nat} {l : List Int} (hd : Dig l) : f_ref01_digit N l (i : Int) = some ((ldg l i : Nat) : Int) := by
 unfold f_ref01_digit
 by_cases h : i < l.length
 ·rw [cmp_lss, dT (by omega), cond_true, idx_dg hd h]; rfl
 ·rw [cmp_lss, dF (by omega), cond_false, ldg_out (by omega)]; rfl
theorem rread_eq {N : Nat} {l : List Int} (hd : Dig l) (hl : l.length ≤ 1000000) (hN : 2 ^ 64 ≤ N) : f_ref01_read N l = some (limbs (val l)) := by
 unfold f_ref01_read
 have := loopN_fold (f := f_ref01_read_L1 N l) l.length (fun i => l.take i) l (by
  intro i hi
  unfold f_ref01_read_L1
  have hg := ldg_lt hd i
  simp (disch := omega) only [cmp_lss, dT, cond_true, idx_dg hd, bS, w64i]
  rw [app_ok (by simp; unfold lim; omega), bS, List.take_succ_eq_append_getElem hi, ldg_int hd hi]
  rfl) (by
  unfold f_ref01_read_L1
  simp (disch := omega) only [cmp_lss, dF, cond_false, List.take_length]) N (by omega)
 rw [List.take_zero] at this
 rw [this, bS, rtrim_eq hd (by omega) hN]; rfl
theorem rplus_eq {N m n : Nat} (hm : nl m ≤ 900000) (hn : nl n ≤ 900000) (hN : 2 ^ 64 ≤ N) : f_ref01_plus N (limbs m) (limbs n) = some (limbs (m + n)) := by
  have ha := dig_limbs m
  have hb := dig_limbs n
  have hal : (limbs m).length ≤ 900000 := hm
  have hbl : (limbs n).length ≤ 900000 := hn
  have hvm := val_limbs m
  have hvn := val_limbs n
  generalize limbs m = a at *
  generalize limbs n = b at *
  unfold f_ref01_plus
  obtain ⟨o, ho, hd, hlen, hv⟩ := loopN_of (f := f_ref01_plus_L1 N a b) (fun s => ∃ i c : Nat, i ≤ 900001 ∧ c < 2 ∧ s.2 = ((c : Int), (i : Int)) ∧ Dig s.1 ∧ s.1.length = i ∧ val s.1 + 65536 ^ i * c = val (a.take i) + val (b.take i) ∧ (i = 900001 → c = 0)) (fun s => 900002 - s.2.2.toNat)
    (fun o => Dig o ∧ o.length ≤ 900001 ∧ val o = val a + val b) (by
    rintro ⟨acc, cc, ii⟩ ⟨i, c, hi, hc, hs, hd, hlen, hv, hz⟩
    simp only [Prod.mk.injEq] at hs hd hlen hv; obtain ⟨rfl, rfl⟩ := hs
    unfold f_ref01_plus_L1
    simp only [cmp_lss, cmp_gtr]
    by_cases hgo : i < a.length ∨ i < b.length ∨ 0 < c
    · have hx := ldg_lt ha i
      have hy := ldg_lt hb i
      have hcond : ((decide ((i : Int) < (a.length : Int)) || decide ((i : Int) < (b.length : Int))) || decide ((0 : Int) < (c : Int))) = true := by
        simp only [Bool.or_eq_true, decide_eq_true_eq]; omega
      have hile : i ≤ 900000 := by omega
      rw [hcond, cond_true, rdigit_eq ha, bS, rdigit_eq hb, bS]
      have e1 : IntKind.i64.wrap (IntKind.i64.wrap (((ldg a i : Nat) : Int) + ((ldg b i : Nat) : Int)) + (c : Int)) = ((ldg a i + ldg b i + c : Nat) : Int) := by
        rw [w64i (n := ((ldg a i : Nat) : Int) + ((ldg b i : Nat) : Int)) (by omega) (by omega), w64i (by omega) (by omega)]; omega
      rw [e1, show (65536 : Int) = ((65536 : Nat) : Int) from rfl, remN (by decide), bS, app_ok (by simp; unfold lim; omega), bS, rquoN (by omega) (by decide), bS, w64s (by omega)]
      refine .inl ⟨_, rfl, ⟨i + 1, (ldg a i + ldg b i + c) / 65536, by omega, by omega, rfl, dig_app hd (dig_one (by omega) (by omega)), by simp [hlen], ?_, ?_⟩, by simp; omega⟩
      · rw [val_app1, val_take_succ, val_take_succ, hlen, Int.toNat_natCast, Nat.pow_succ]
        have h2 := Nat.mod_add_div (ldg a i + ldg b i + c) 65536
        generalize (ldg a i + ldg b i + c) % 65536 = mm at *
        generalize (ldg a i + ldg b i + c) / 65536 = dd at *
        generalize 65536 ^ i = P at *
        have h3 : P * (mm + 65536 * dd) = P * (ldg a i + ldg b i + c) := by rw [h2]
        clear e1 hcond
        grind
      · intro h
        rw [ldg_out (l := a) (by omega), ldg_out (l := b) (by omega)]; omega
    · have hcond : ((decide ((i : Int) < (a.length : Int)) || decide ((i : Int) < (b.length : Int))) || decide ((0 : Int) < (c : Int))) = false := by
        simp only [Bool.or_eq_false_iff, decide_eq_false_iff_not]; omega
      rw [hcond, cond_false]
      refine .inr ⟨_, rfl, hd, by omega, ?_⟩
      rw [List.take_of_length_le (by omega), List.take_of_length_le (by omega), show c = 0 by omega] at hv
      simpa using hv) N ([], 0, 0) ⟨0, 0, by omega, by omega, rfl, dig_nil, rfl, by simp [val], by omega⟩ (by simp only []; omega)
  rw [ho, bS, rtrim_eq hd (by omega) hN, hv, hvm, hvn]; rfl
theorem rminus_eq {N m n : Nat} (hle : n ≤ m) (hm : nl m ≤ 900000) (hN : 2 ^ 64 ≤ N) : f_ref01_minus N (limbs m) (limbs n) = some (limbs (m - n)) := by
  have ha := dig_limbs m
  have hb := dig_limbs n
  have hbl : (limbs n).length ≤ (limbs m).length := nl_mono hle
  have hal : (limbs m).length ≤ 900000 := hm
  have hvm := val_limbs m
  have hvn := val_limbs n
  generalize limbs m = a at *
  generalize limbs n = b at *
  unfold f_ref01_minus
  obtain ⟨o, ho, hd, hlen, hv⟩ := loopN_of (f := f_ref01_minus_L1 N a b) (fun s => ∃ i c : Nat, i ≤ a.length ∧ c < 2 ∧ s.2 = ((c : Int), (i : Int)) ∧ Dig s.1 ∧ s.1.length = i ∧ val s.1 + val (b.take i) = val (a.take i) + 65536 ^ i * c) (fun s => a.length - s.2.2.toNat)
    (fun o => Dig o ∧ o.length = a.length ∧ ∃ c : Nat, c < 2 ∧ val o + val b = val a + 65536 ^ a.length * c) (by
    rintro ⟨acc, cc, ii⟩ ⟨i, c, hi, hc, hs, hd, hlen, hv⟩
    simp only [Prod.mk.injEq] at hs hd hlen hv; obtain ⟨rfl, rfl⟩ := hs
    unfold f_ref01_minus_L1
    simp only [cmp_lss]
    by_cases hlt : i < a.length
    · have hx := ldg_lt ha i
      have hy := ldg_lt hb i
      have e1 : IntKind.i64.wrap (IntKind.i64.wrap (((ldg a i : Nat) : Int) - ((ldg b i : Nat) : Int)) - (c : Int)) = (((ldg a i : Nat) : Int) - ((ldg b i : Nat) : Int) - (c : Int)) := by
        rw [w64i (n := ((ldg a i : Nat) : Int) - ((ldg b i : Nat) : Int)) (by omega) (by omega), w64i (by omega) (by omega)]
      rw [dT (by omega), cond_true, idx_dg ha hlt, bS, rdigit_eq hb, bS, e1]
      by_cases hneg : ldg a i < ldg b i + c
      · rw [dT (by omega), cond_true, w64i (n := ((ldg a i : Nat) : Int) - ((ldg b i : Nat) : Int) - (c : Int) + 65536) (by omega) (by omega), app_ok (by simp; unfold lim; omega), bS, w64s (by omega)]
        refine .inl ⟨_, rfl, ⟨i + 1, 1, by omega, by omega, rfl, dig_app hd (dig_one (by omega) (by omega)), by simp [hlen], ?_⟩, by simp; omega⟩
        rw [val_app1, val_take_succ, val_take_succ, hlen, Nat.pow_succ]
        have e2 : (((ldg a i : Nat) : Int) - ((ldg b i : Nat) : Int) - (c : Int) + 65536).toNat + ldg b i + c = ldg a i + 65536 := by omega
        generalize (((ldg a i : Nat) : Int) - ((ldg b i : Nat) : Int) - (c : Int) + 65536).toNat = z at *
        generalize 65536 ^ i = P at *
        have h3 : P * (z + ldg b i + c) = P * (ldg a i + 65536) := by rw [e2]
        clear e1
        grind
      · rw [dF (by omega), cond_false, app_ok (by simp; unfold lim; omega), bS, w64s (by omega)]
        refine .inl ⟨_, rfl, ⟨i + 1, 0, by omega, by omega, rfl, dig_app hd (dig_one (by omega) (by omega)), by simp [hlen], ?_⟩, by simp; omega⟩
        rw [val_app1, val_take_succ, val_take_succ, hlen, Nat.pow_succ]
        have e2 : (((ldg a i : Nat) : Int) - ((ldg b i : Nat) : Int) - (c : Int)).toNat + ldg b i + c = ldg a i := by omega
        generalize (((ldg a i : Nat) : Int) - ((ldg b i : Nat) : Int) - (c : Int)).toNat = z at *
        generalize 65536 ^ i = P at *
        have h3 : P * (z + ldg b i + c) = P * (ldg a i) := by rw [e2]
        clear e1
        grind
    · obtain rfl : i = a.length := by omega
      rw [dF (by omega), cond_false]
      refine .inr ⟨_, rfl, hd, hlen, c, hc, ?_⟩
      rw [List.take_of_length_le hbl, List.take_length] at hv; exact hv) N ([], 0, 0) ⟨0, 0, by omega, by omega, rfl, dig_nil, rfl, by simp [val]⟩ (by simp only []; omega)
  obtain ⟨c, hc, hv⟩ := hv
  have h1 := val_lt hd
  rw [hlen] at h1
  have hc0 : c = 0 := by
    rcases Nat.lt_or_ge c 1 with h | h
    · omega
    · obtain rfl : c = 1 := by omega
      omega
  subst hc0
  rw [ho, bS, rtrim_eq hd (by omega) hN, show val o = m - n by omega]; rfl
theorem rtimes_inner {N i x : Nat} {a b out0 : List Int} (ha : Dig a) (hia : i < a.length) (hxa : ldg a i = x) (hb : Dig b) (ho : Dig out0) (hlen : i + b.length < out0.length) (hl : out0.length ≤ 2000000) (hz : ldg out0 (i + b.length) = 0) (hN : 2 ^ 64 ≤ N) :
    ∃ o, loopN (f_ref01_times_L1 N a b (out0, (i : Int))) N (out0, 0, 0) = some o ∧ Dig o ∧ o.length = out0.length ∧ val o = val out0 + 65536 ^ i * (x * val b) := by
  have hx := ldg_lt ha i
  rw [hxa] at hx
  refine loopN_of (fun s => ∃ k c : Nat, k ≤ b.length + 1 ∧ c < 65536 ∧ s.2 = ((c : Int), (k : Int)) ∧ Dig s.1 ∧ s.1.length = out0.length ∧ (k ≤ b.length → ldg s.1 (i + b.length) = 0) ∧ (k = b.length + 1 → c = 0) ∧ val s.1 + 65536 ^ (i + k) * c = val out0 + 65536 ^ i * (x * val (b.take k))) (fun s => b.length + 1 - s.2.2.toNat) _ ?_ N _ ⟨0, 0, by omega, by omega, rfl, ho, rfl, fun _ => hz, by omega, by simp [val]⟩ (by simp only []; omega)
  rintro ⟨out, cc, kk⟩ ⟨k, c, hk, hc, hs, hd, hlo, hz', hc0, hv⟩
  simp only [Prod.mk.injEq] at hs hd hlo hz' hv; obtain ⟨rfl, rfl⟩ := hs
  unfold f_ref01_times_L1
  simp only [cmp_lss, cmp_gtr]
  by_cases hgo : k < b.length ∨ 0 < c
  · have hcond : (decide ((k : Int) < (b.length : Int)) || decide ((0 : Int) < (c : Int))) = true := by simp only [Bool.or_eq_true, decide_eq_true_eq]; omega
    have hkb : k ≤ b.length := by omega
    have hy := ldg_lt hb k
    have hu := ldg_lt hd (i + k)
    have hxy := dig_mul_lt hx hy
    have hik : IntKind.i64.wrap ((i : Int) + (k : Int)) = ((i + k : Nat) : Int) := by rw [w64i (by omega) (by omega)]; omega
    have e1 : IntKind.i64.wrap (IntKind.i64.wrap (((ldg out (i + k) : Nat) : Int) + IntKind.i64.wrap (((ldg a i : Nat) : Int) * ((ldg b k : Nat) : Int))) + (c : Int)) = ((ldg out (i + k) + x * ldg b k + c : Nat) : Int) := by
      rw [hxa, ← Int.natCast_mul, w64i (n := ((x * ldg b k : Nat) : Int)) (by omega) (by omega), w64i (n := ((ldg out (i + k) : Nat) : Int) + ((x * ldg b k : Nat) : Int)) (by omega) (by omega), w64i (by omega) (by omega)]; omega
    rw [hcond, cond_true, hik, idx_dg hd (by omega), bS, idx_dg ha hia, bS, rdigit_eq hb, bS, e1, show (65536 : Int) = ((65536 : Nat) : Int) from rfl, remN (by decide), bS, bS, rquoN (by omega) (by decide), bS, w64s (by omega), Int.toNat_natCast]
    refine .inl ⟨_, rfl, ⟨k + 1, (ldg out (i + k) + x * ldg b k + c) / 65536, by omega, by omega, rfl, dig_set hd (by omega) (by omega), by simp [hlo], ?_, ?_, ?_⟩, by simp only []; omega⟩
    · intro h; rw [ldg_set_ne (by omega)]; exact hz' (by omega)
    · intro h
      obtain rfl : k = b.length := by omega
      rw [hz' (Nat.le_refl _), ldg_out (l := b) (Nat.le_refl _)]; omega
    · have h1 := val_set (d := (((ldg out (i + k) + x * ldg b k + c) % 65536 : Nat) : Int)) (show i + k < out.length by omega)
      rw [Int.toNat_natCast] at h1
      rw [val_take_succ]
      have h2 := Nat.mod_add_div (ldg out (i + k) + x * ldg b k + c) 65536
      rw [show i + (k + 1) = i + k + 1 by omega, Nat.pow_succ]
      have hP : 65536 ^ (i + k) = 65536 ^ i * 65536 ^ k := Nat.pow_add _ _ _
      generalize val (out.set (i + k) (((ldg out (i + k) + x * ldg b k + c) % 65536 : Nat) : Int)) = V at *
      generalize (ldg out (i + k) + x * ldg b k + c) % 65536 = m at *
      generalize (ldg out (i + k) + x * ldg b k + c) / 65536 = q at *
      generalize 65536 ^ (i + k) = P at *
      generalize ldg out (i + k) = u at *
      generalize ldg b k = y at *
      generalize 65536 ^ k = Q at *
      generalize 65536 ^ i = RR at *
      have h3 : P * (m + 65536 * q) = P * (u + x * y + c) := by rw [h2]
      subst hP
      clear e1 hcond hik
      grind
  · have hcond : (decide ((k : Int) < (b.length : Int)) || decide ((0 : Int) < (c : Int))) = false := by simp only [Bool.or_eq_false_iff, decide_eq_false_iff_not]; omega
    rw [hcond, cond_false]
    refine .inr ⟨_, rfl, hd, hlo, ?_⟩
    rw [List.take_of_length_le (by omega), show c = 0 by omega] at hv
    simpa using hv
theorem rtimes_eq {N m n : Nat} (hm : nl m ≤ 900000) (hn : nl n ≤ 900000) (hN : 2 ^ 64 ≤ N) : f_ref01_times N (limbs m) (limbs n) = some (limbs (m * n)) := by
  have ha := dig_limbs m
  have hb := dig_limbs n
  have hal : (limbs m).length ≤ 900000 := hm
  have hbl : (limbs n).length ≤ 900000 := hn
  have hvm := val_limbs m
  have hvn := val_limbs n
  generalize limbs m = a at *
  generalize limbs n = b at *
  unfold f_ref01_times
  rw [w64i (n := (a.length : Int) + (b.length : Int)) (by omega) (by omega), w64i (by omega) (by omega), mk_rep (by omega) (by omega), bS, show ((a.length : Int) + (b.length : Int) + 1).toNat = a.length + b.length + 1 by omega]
  obtain ⟨o, ho, hd, hlen, hv⟩ := loopN_of (f := f_ref01_times_L2 N a b) (fun s => ∃ i : Nat, i ≤ a.length ∧ s.2 = (i : Int) ∧ Dig s.1 ∧ s.1.length = a.length + b.length + 1 ∧ val s.1 = val (a.take i) * val b) (fun s => a.length - s.2.toNat)
    (fun o => Dig o ∧ o.length = a.length + b.length + 1 ∧ val o = val a * val b) (by
    rintro ⟨out, ii⟩ ⟨i, hi, hs, hd, hlen, hv⟩
    simp only at hs hd hlen hv; subst hs
    unfold f_ref01_times_L2
    simp only [cmp_lss]
    by_cases hlt : i < a.length
    · have hbd : val (a.take i) * val b < 65536 ^ (i + b.length) := by
        have h1 := val_lt (dig_take ha i)
        have h2 : 65536 ^ (a.take i).length ≤ 65536 ^ i := Nat.pow_le_pow_right (by decide) (by rw [List.length_take]; omega)
        rw [Nat.pow_add]
        exact Nat.mul_lt_mul'' (by omega) (val_lt hb)
      obtain ⟨o, ho, hd', hlen', hv'⟩ := rtimes_inner (N := N) (i := i) ha hlt rfl hb hd (by omega) (by omega) (ldg_zero (by rw [hv]; exact hbd)) hN
      rw [dT (by omega), cond_true, ho, bS, w64s (by omega)]
      refine .inl ⟨_, rfl, ⟨i + 1, by omega, rfl, hd', hlen'.trans hlen, ?_⟩, by simp; omega⟩
      rw [hv', hv, val_take_succ]; grind
    · obtain rfl : i = a.length := by omega
      rw [dF (by omega), cond_false]
      refine .inr ⟨_, rfl, hd, hlen, ?_⟩
      rw [List.take_length] at hv; exact hv) N (List.replicate (a.length + b.length + 1) 0, 0) ⟨0, by omega, rfl, dig_rep _, by simp, by simp [val, val_rep]⟩ (by simp only []; omega)
  rw [ho, bS, rtrim_eq hd (by omega) hN, hv, hvm, hvn]; rfl
theorem rcompare_eq {N a b : Nat} (ha : nl a ≤ 1000000) (hb : nl b ≤ 1000000) (hN : 2 ^ 64 ≤ N) : ∃ c, f_ref01_compare N (limbs a) (limbs b) = some c ∧ (c < 0 ↔ a < b) ∧ (c = 0 ↔ a = b) := by
  have hda := dig_limbs a
  have hdb := dig_limbs b
  unfold f_ref01_compare
  simp only [nl_eq, cmp_neq]
  by_cases hlen : nl a = nl b
  · rw [hlen, dT rfl, Bool.not_true, cond_false]
    obtain ⟨o, ho, hp⟩ := loopN_of (f := f_ref01_compare_L1 N (limbs a) (limbs b)) (fun s => ∃ k : Nat, k ≤ nl b ∧ s = (k : Int) - 1 ∧ (limbs a).drop k = (limbs b).drop k) (fun s => (s + 1).toNat)
      (fun o => match o with | .inl _ => a = b | .inr c => (c < 0 ↔ a < b) ∧ (c = 0 ↔ a = b)) (by
      rintro s ⟨k, hk, rfl, he⟩
      unfold f_ref01_compare_L1
      simp only [cmp_geq, cmp_neq]
      cases k with
      | zero =>
        rw [dF (by omega), cond_false]
        refine .inr ⟨_, rfl, ?_⟩
        have : limbs a = limbs b := by simpa using he
        show a = b
        rw [← val_limbs a, ← val_limbs b, this]
      | succ k =>
        have hxa := ldg_lt hda k
        have hxb := ldg_lt hdb k
        have hka : k < (limbs a).length := by rw [nl_eq]; omega
        have hkb : k < (limbs b).length := by rw [nl_eq]; omega
        rw [show ((k + 1 : Nat) : Int) - 1 = (k : Int) by omega, dT (by omega), cond_true, idx_dg hda hka, bS, idx_dg hdb hkb, bS]
        by_cases hne : ldg (limbs a) k = ldg (limbs b) k
        · rw [dT (by omega), Bool.not_true, cond_false, w64i (by omega) (by omega)]
          refine .inl ⟨_, rfl, ⟨k, by omega, rfl, ?_⟩, by omega⟩
          rw [List.drop_eq_getElem_cons hka, List.drop_eq_getElem_cons hkb, he, ldg_int hda hka, ldg_int hdb hkb, hne]
        · rw [dF (by omega), Bool.not_false, cond_true, bS, bS, w64i (by omega) (by omega)]
          refine .inr ⟨_, rfl, ?_⟩
          have key : ∀ {x y : Nat}, (hx : k < (limbs x).length) → (hy : k < (limbs y).length) → (limbs x).drop (k + 1) = (limbs y).drop (k + 1) → ldg (limbs x) k < ldg (limbs y) k → x < y := by
            intro x y hx hy hdr hlt
            have := cmp_digit (dig_limbs x) (dig_limbs y) hx hy hdr (by rw [ldg_int (dig_limbs x) hx, ldg_int (dig_limbs y) hy]; omega)
            rwa [val_limbs, val_limbs] at this
          rcases Nat.lt_or_gt_of_ne hne with h | h
          · have := key hka hkb he h
            exact ⟨⟨fun _ => this, fun _ => by omega⟩, ⟨fun _ => by omega, fun _ => by omega⟩⟩
          · have := key hkb hka he.symm h
            exact ⟨⟨fun _ => by omega, fun _ => by omega⟩, ⟨fun _ => by omega, fun _ => by omega⟩⟩) N (IntKind.i64.wrap (((nl b : Nat) : Int) - 1)) ⟨nl b, Nat.le_refl _, by rw [w64i (by omega) (by omega)], by rw [List.drop_of_length_le (by rw [nl_eq]; omega), List.drop_of_length_le (by rw [nl_eq]; omega)]⟩ (by rw [w64i (by omega) (by omega)]; omega)
    rw [ho, bS]
    cases o with
    | inl u => exact ⟨0, rfl, ⟨fun h => by omega, fun h => by have : a = b := hp; omega⟩, ⟨fun _ => hp, fun _ => rfl⟩⟩
    | inr c => exact ⟨c, rfl, hp⟩
  · rw [dF (by omega), Bool.not_false, cond_true, w64i (by omega) (by omega)]
    refine ⟨_, rfl, ?_⟩
    have k1 : nl a < nl b → a < b := fun h => limbs_lt_len h
    have k2 : nl b < nl a → b < a := fun h => limbs_lt_len h
    have k3 : a = b → nl a = nl b := fun h => by rw [h]
    constructor <;> constructor <;> intro h <;> omega
end Go.KB
namespace Go.KB
set_option linter.unusedVariables false
theorem nl_limb {m : Nat} (h : m < 65536) : nl m ≤ 1 := nl_le (by simpa using h)
theorem rsearch {N n r : Nat} (hn0 : n ≠ 0) (hn : nl n ≤ 800000) (hr : nl r ≤ 900000) (hd : r / n < 65536) (hN : 2 ^ 64 ≤ N) :
    loopN (f_ref01_over_L1 N (limbs n) (limbs r)) N (0, 65535) = some ((r / n : Nat) : Int) := by
  have hpos : 0 < n := Nat.pos_of_ne_zero hn0
  refine loopN_eq (fun s => ∃ lo hi : Nat, s = ((lo : Int), (hi : Int)) ∧ lo ≤ r / n ∧ r / n ≤ hi ∧ hi < 65536) (fun s => (s.2 - s.1).toNat) _ ?_ N _ ⟨0, 65535, rfl, Nat.zero_le _, Nat.le_of_lt_succ hd, by omega⟩ (by simp only []; omega)
  rintro s ⟨lo, hi, rfl, h1, h2, h3⟩
  unfold f_ref01_over_L1
  simp only [cmp_lss, cmp_leq]
  by_cases hlt : lo < hi
  · have e1 : IntKind.i64.wrap (IntKind.i64.wrap ((lo : Int) + (hi : Int)) + 1) = ((lo + hi + 1 : Nat) : Int) := by rw [w64i (n := (lo : Int) + (hi : Int)) (by omega) (by omega), w64i (by omega) (by omega)]; omega
    generalize hm : (lo + hi + 1) / 2 = m
    have hm0 : m ≠ 0 := by omega
    have hml := nl_mul n m
    have hm1 := nl_limb (show m < 65536 by omega)
    obtain ⟨c, hc, hclt, hceq⟩ := rcompare_eq (N := N) (a := n * m) (b := r) (by omega) (by omega) hN
    rw [dT (by omega), cond_true, e1, show (2 : Int) = ((2 : Nat) : Int) from rfl, rquoN (by omega) (by decide), hm, bS, ← limbs_one hm0 (by omega), rtimes_eq (by omega) (by omega) hN, bS, hc, bS]
    by_cases hle : n * m ≤ r
    · rw [dT (by rcases Nat.lt_or_ge (n * m) r with h | h; exact Int.le_of_lt (hclt.2 h); exact Int.le_of_eq (hceq.2 (by omega))), cond_true]
      exact .inl ⟨_, rfl, ⟨m, hi, rfl, by rw [Nat.le_div_iff_mul_le hpos, Nat.mul_comm]; exact hle, h2, h3⟩, by simp only []; omega⟩
    · rw [dF (by have g1 : ¬ c < 0 := fun h => by have := hclt.1 h; omega
                 have g2 : ¬ c = 0 := fun h => by have := hceq.1 h; omega
                 omega), cond_false, w64i (by omega) (by omega)]
      refine .inl ⟨_, rfl, ⟨lo, m - 1, by rw [show (m : Int) - 1 = ((m - 1 : Nat) : Int) by omega], h1, ?_, by omega⟩, by simp only []; omega⟩
      have : r / n < m := by rw [Nat.div_lt_iff_lt_mul hpos, Nat.mul_comm]; omega
      omega
  · rw [dF (by omega), cond_false]
    refine .inr ?_
    congr 3; omega
theorem rover_eq {N m n : Nat} (hn0 : n ≠ 0) (hm : nl m ≤ 800000) (hn : nl n ≤ 700000) (hN : 2 ^ 64 ≤ N) : f_ref01_over N (limbs m) (limbs n) = some (limbs (m / n), limbs (m % n)) := by
  have hpos : 0 < n := Nat.pos_of_ne_zero hn0
  have ha := dig_limbs m
  have hal : (limbs m).length ≤ 800000 := hm
  have hvm := val_limbs m
  generalize limbs m = a at *
  unfold f_ref01_over
  rw [mk_rep (by omega) (by omega), bS, Int.toNat_natCast]
  obtain ⟨o, ho, h1, hdq, hql, hqv⟩ := loopN_of (f := f_ref01_over_L2 N a (limbs n)) (fun s => ∃ k : Nat, k ≤ a.length ∧ s.2.2 = (k : Int) - 1 ∧ s.1 = limbs (val (a.drop k) % n) ∧ Dig s.2.1 ∧ s.2.1.length = a.length ∧ val (s.2.1.drop k) = val (a.drop k) / n) (fun s => (s.2.2 + 1).toNat)
    (fun o => o.1 = limbs (val a % n) ∧ Dig o.2 ∧ o.2.length = a.length ∧ val o.2 = val a / n) (by
    rintro ⟨rest, q, kk⟩ ⟨k, hk, hs, hr, hdq, hql, hqv⟩
    simp only at hs hr hdq hql hqv; subst hs; subst hr
    unfold f_ref01_over_L2
    simp only [cmp_geq, cmp_gtr]
    cases k with
    | zero =>
      rw [dF (by omega), cond_false]
      exact .inr ⟨_, rfl, by simp, hdq, hql, by simpa using hqv⟩
    | succ k =>
      have hx := ldg_lt ha k
      have hR : val (a.drop (k + 1)) % n < n := Nat.mod_lt _ hpos
      have hRl : nl (val (a.drop (k + 1)) % n) ≤ nl n := nl_mono (Nat.le_of_lt hR)
      obtain ⟨sm, sd⟩ := step_divmod (a := ldg a k) hpos (rfl : val (a.drop (k + 1)) % n = _)
      rw [← val_drop] at sm sd
      generalize hX : ldg a k + 65536 * (val (a.drop (k + 1)) % n) = X at *
      have hXn : X / n < 65536 := by
        rw [Nat.div_lt_iff_lt_mul hpos]
        have := Nat.mul_le_mul_left 65536 (show val (a.drop (k + 1)) % n + 1 ≤ n from hR)
        omega
      have hXl : nl X ≤ 700001 := by
        rw [← hX]
        have g1 := nl_mul 65536 (val (a.drop (k + 1)) % n)
        refine Nat.le_trans (nl_le (k := nl n + 1) ?_) (by omega)
        rw [Nat.pow_succ]
        have g2 := Nat.lt_trans hR (nl_lt n)
        have g3 := Nat.mul_le_mul_left 65536 (show val (a.drop (k + 1)) % n + 1 ≤ 65536 ^ nl n from g2)
        omega
      have htrim : f_ref01_trim N ([((ldg a k : Nat) : Int)] ++ limbs (val (a.drop (k + 1)) % n)) = some (limbs X) := by
        rw [rtrim_eq (dig_app (dig_one (by omega) (by omega)) (dig_limbs _)) (by rw [List.length_append, nl_eq]; simp; omega) hN, val_append, val_limbs]
        congr 2
      rw [show ((k + 1 : Nat) : Int) - 1 = (k : Int) by omega, dT (by omega), cond_true, idx_dg ha (by omega), bS, app_ok (by rw [nl_eq]; simp; unfold lim; omega), bS, htrim, bS, rsearch hn0 (by omega) (by omega) hXn hN, bS, idx_dg hdq (by omega), bS, w64i (n := (k : Int) - 1) (by omega) (by omega), Int.toNat_natCast]
      have hfin : ∃ k' : Nat, k' ≤ a.length ∧ (limbs (X % n), q.set k ((X / n : Nat) : Int), (k : Int) - 1).2.2 = (k' : Int) - 1 ∧ (limbs (X % n), q.set k ((X / n : Nat) : Int), (k : Int) - 1).1 = limbs (val (a.drop k') % n) ∧ Dig (limbs (X % n), q.set k ((X / n : Nat) : Int), (k : Int) - 1).2.1 ∧ (limbs (X % n), q.set k ((X / n : Nat) : Int), (k : Int) - 1).2.1.length = a.length ∧ val ((limbs (X % n), q.set k ((X / n : Nat) : Int), (k : Int) - 1).2.1.drop k') = val (a.drop k') / n :=
        ⟨k, by omega, rfl, by rw [sm], dig_set hdq (Int.natCast_nonneg _) (Int.ofNat_lt.2 hXn), by simp [hql], by
          simp only []
          rw [val_drop, ldg_set_same (by omega), Int.toNat_natCast, drop_set_lt' (by omega), hqv, sd]⟩
      by_cases hz : X / n = 0
      · rw [dF (by rw [hz]; omega), cond_false]
        have hXX : X % n = X := by have := Nat.div_add_mod X n; rw [hz] at this; omega
        rw [hXX] at hfin
        exact .inl ⟨_, rfl, hfin, by simp only []; omega⟩
      · have hd1 := nl_limb hXn
        have hml := nl_mul n (X / n)
        have hle : n * (X / n) ≤ X := Nat.mul_div_le X n
        have hmod : X - n * (X / n) = X % n := by have := Nat.div_add_mod X n; omega
        have hzp : 0 < X / n := Nat.pos_of_ne_zero hz
        rw [dT (Int.natCast_pos.2 hzp), cond_true, ← limbs_one hz hXn, rtimes_eq (by omega) (by omega) hN, bS, rminus_eq hle (by omega) hN, bS, hmod]
        exact .inl ⟨_, rfl, hfin, by simp only []; omega⟩) N ([], List.replicate a.length 0, IntKind.i64.wrap ((a.length : Int) - 1)) ⟨a.length, Nat.le_refl _, by simp only []; rw [w64i (by omega) (by omega)], by simp [val, limbs_zero], dig_rep _, by simp, by simp [val]⟩ (by simp only []; rw [w64i (by omega) (by omega)]; omega)
  rw [ho, bS, rtrim_eq hdq (by omega) hN, bS, hqv, h1, hvm]
theorem rgcd_eq {N a b : Nat} (ha : nl a ≤ 700000) (hb : nl b ≤ 700000) (hN : 2 ^ 64 ≤ N) : f_ref01_gcd N (limbs a) (limbs b) = some (limbs (Nat.gcd a b)) := by
 unfold f_ref01_gcd
 rw [loopN_eq (f := f_ref01_gcd_L1 N) (fun s => ∃ x y : Nat, s = (limbs x, limbs y) ∧ nl x ≤ 700000 ∧ nl y ≤ 700000 ∧ Nat.gcd x y = Nat.gcd a b) (fun s => gcdM (val s.1) (val s.2)) (limbs (Nat.gcd a b)) (by
  rintro s ⟨x, y, rfl, hx, hy, hg⟩
  unfold f_ref01_gcd_L1
  simp only [cmp_gtr, nl_eq]
  by_cases hy0 : y = 0
  ·subst hy0
   rw [Nat.gcd_zero_right] at hg
   subst hg
   refine .inr ?_
   rw [nl_zero]; rfl
  ·have hyp := nl_pos hy0
   have hml : nl (x % y) ≤ nl y := nl_mono (Nat.le_of_lt (Nat.mod_lt _ (Nat.pos_of_ne_zero hy0)))
   have hgn : Nat.gcd y (x % y) = Nat.gcd a b := by rw [← hg, Nat.gcd_comm y, ← Nat.gcd_rec, Nat.gcd_comm]
   rw [dT (by omega), cond_true, rover_eq hy0 (by omega) hy hN, bS]
   exact .inl ⟨_, rfl, ⟨y, x % y, rfl, hy, by omega, hgn⟩, by simp only [val_limbs]; exact gcdM_lt hy0⟩) N _ ⟨a, b, rfl, ha, hb, rfl⟩ (by simp only [val_limbs]; have := gcdM_le (show nl a ≤ 900000 by omega) (show nl b ≤ 900000 by omega); omega)]
 rfl
theorem rmade_eq {N n : Nat} {s : Bool} (hn : nl n ≤ 1000000) (hN : 2 ^ 64 ≤ N) : f_ref01_made N s (limbs n) = some (I (bif s then -(n : Int) else n)) := by
 unfold f_ref01_made
 have hd := dig_limbs n
 have := loopN_fold (f := f_ref01_made_L1 N (limbs n)) (limbs n).length (fun i => (⟨s && decide (n ≠ 0), (limbs n).take i⟩ : GInt)) (⟨s && decide (n ≠ 0), limbs n⟩ : GInt) (by
  intro i hi
  unfold f_ref01_made_L1
  have hg := ldg_lt hd i
  have hi' := hi
  rw [nl_eq] at hi'
  simp only [cmp_lss, nl_eq]
  rw [dT (by omega), cond_true, idx_dg hd hi, bS, u16w, show ((ldg (limbs n) i : Nat) : Int) % 65536 = ((ldg (limbs n) i : Nat) : Int) by omega, app_ok (by simp; unfold lim; omega), bS, w64s (by omega), List.take_succ_eq_append_getElem hi, ldg_int hd hi]) (by
  unfold f_ref01_made_L1
  simp only [cmp_lss]
  rw [dF (by omega), cond_false, List.take_length]) N (by rw [nl_eq]; omega)
 rw [List.take_zero] at this
 have hneg : (cmpI .gtr (List.length (limbs n) : Int) 0) = decide (n ≠ 0) := by
  rw [cmp_gtr, nl_eq, decide_eq_decide]
  constructor
  ·intro h e; rw [e, nl_zero] at h; omega
  ·intro h; have := nl_pos h; omega
 rw [hneg, this, ← gint_I]; rfl
theorem rread_val {N k : Nat} {x : GInt} (h : Io k x) (hk : k ≤ 900000) (hN : 2 ^ 64 ≤ N) : f_ref01_read N x.Limbs = some (limbs (ival x).natAbs) := by
 have := h.ll
 rw [ival_abs]; exact rread_eq h.dl (by omega) hN
theorem rMul_eq {N k l : Nat} {x y : GInt} (hx : Io k x) (hy : Io l y) (hk : k + l ≤ 900000) (hN : 2 ^ 64 ≤ N) : f_ref01_Mul N x y = some (I (ival x * ival y)) := by
 unfold f_ref01_Mul
 have h1 := hx.nl
 have h2 := hy.nl
 have h3 := nl_mul (ival x).natAbs (ival y).natAbs
 rw [rread_val hx (by omega) hN, bS, rread_val hy (by omega) hN, bS, rtimes_eq (by omega) (by omega) hN, bS, rmade_eq (by omega) hN, bS]
 congr 2
 rw [ival_abs, ival_abs]
 unfold ival
 cases x.Neg <;> cases y.Neg <;> simp [Int.neg_mul, Int.mul_neg]
theorem rAdd_eq {N k l : Nat} {x y : GInt} (hx : Io k x) (hy : Io l y) (hk : k ≤ 800000) (hl : l ≤ 800000) (hN : 2 ^ 64 ≤ N) : f_ref01_Add N x y = some (I (ival x + ival y)) := by
  unfold f_ref01_Add
  have h1 := hx.nl
  have h2 := hy.nl
  rw [rread_val hx (by omega) hN, bS, rread_val hy (by omega) hN, bS]
  rw [ival_abs] at *
  rw [ival_abs] at *
  have h3 := nl_add (val x.Limbs) (val y.Limbs)
  by_cases hs : x.Neg = y.Neg
  · rw [show (x.Neg == y.Neg) = true by rw [hs]; simp, cond_true, rplus_eq (by omega) (by omega) hN, bS, rmade_eq (by omega) hN, bS]
    congr 2
    unfold ival
    rw [hs]
    cases y.Neg <;> simp <;> omega
  · rw [show (x.Neg == y.Neg) = false by simpa using hs, cond_false]
    obtain ⟨c, hc, hclt, hceq⟩ := rcompare_eq (N := N) (a := val x.Limbs) (b := val y.Limbs) (by omega) (by omega) hN
    rw [hc, bS, cmp_geq]
    by_cases hlt : val x.Limbs < val y.Limbs
    · have h4 : nl (val y.Limbs - val x.Limbs) ≤ nl (val y.Limbs) := nl_mono (by omega)
      rw [dF (by have := hclt.2 hlt; omega), cond_false, rminus_eq (by omega) (by omega) hN, bS, rmade_eq (by omega) hN, bS]
      congr 2
      unfold ival
      cases hxn : x.Neg <;> cases hyn : y.Neg <;> rw [hxn, hyn] at hs <;> simp at hs ⊢ <;> omega
    · have h4 : nl (val x.Limbs - val y.Limbs) ≤ nl (val x.Limbs) := nl_mono (by omega)
      rw [dT (by have : ¬ c < 0 := fun h => hlt (hclt.1 h); omega), cond_true, rminus_eq (by omega) (by omega) hN, bS, rmade_eq (by omega) hN, bS]
      congr 2
      unfold ival
      cases hxn : x.Neg <;> cases hyn : y.Neg <;> rw [hxn, hyn] at hs <;> simp at hs ⊢ <;> omega
theorem rNeg_eq {N k : Nat} {x : GInt} (hx : Io k x) (hk : k ≤ 800000) (hN : 2 ^ 64 ≤ N) : f_ref01_Neg N x = some (I (-ival x)) := by
 unfold f_ref01_Neg
 have h1 := hx.nl
 rw [rread_val hx (by omega) hN, bS, rmade_eq (by omega) hN, bS]
 congr 2
 rw [ival_abs]
 unfold ival
 cases x.Neg <;> simp
theorem rSign_eq {N k : Nat} {x : GInt} (hx : Io k x) (hk : k ≤ 900000) (hN : 2 ^ 64 ≤ N) : f_ref01_Sign N x = some (ival x).sign := by
 unfold f_ref01_Sign
 rw [rread_val hx hk hN, bS, cmp_eql, nl_eq, ← sign_val]
 by_cases h : (ival x).natAbs = 0
 ·rw [h, nl_zero, if_pos rfl]; rfl
 ·have := nl_pos h
  rw [dF (by omega), cond_false, if_neg h]
  cases x.Neg <;> rfl
theorem rOf_eq {N : Nat} {z : Int} (h0 : -9223372036854775808 ≤ z) (h1 : z ≤ 9223372036854775807) (hN : 2 ^ 64 ≤ N) : f_ref01_Of N z = some (I z) := by
 unfold f_ref01_Of
 have hl : nl z.natAbs ≤ 4 := nl_le (by omega)
 have hstart : ((bif cmpI .lss z 0 then some (IntKind.u64.wrap (0 - IntKind.u64.wrap z)) else some (IntKind.u64.wrap z)) : Option Int) = some ((z.natAbs : Nat) : Int) := by
  rw [cmp_lss]
  by_cases hz : z < 0
  ·rw [dT hz, cond_true, IntKind.wrap_u64, IntKind.wrap_u64]; congr 1; omega
  ·rw [dF hz, cond_false, IntKind.wrap_u64]; congr 1; omega
 rw [hstart, bS]
 have hloop : loopN (f_ref01_Of_L1 N) N ([], ((z.natAbs : Nat) : Int)) = some (limbs z.natAbs) := by
  generalize hn : z.natAbs = n at *
  refine loopN_eq (fun s => ∃ k : Nat, s.2 = (k : Int) ∧ k ≤ n ∧ s.1 ++ limbs k = limbs n) (fun s => s.2.toNat) (limbs n) ?_ N _ ⟨n, rfl, Nat.le_refl _, by simp⟩ (by simp only []; omega)
  rintro ⟨acc, kk⟩ ⟨k, hs, hk, hv⟩
  simp only at hs hv; subst hs
  unfold f_ref01_Of_L1
  simp only [cmp_gtr]
  by_cases hk0 : k = 0
  ·subst hk0
   refine .inr ?_
   rw [limbs_zero, List.append_nil] at hv
   rw [hv]; rfl
  ·have hlen := congrArg List.length hv
   rw [List.length_append, nl_eq, nl_eq] at hlen
   have hkp := nl_pos hk0
   have hq : quoI .u64 (k : Int) ((65536 : Nat) : Int) = some ((k / 65536 : Nat) : Int) := quo64 (by decide) (by omega)
   rw [dT (by omega), cond_true, show (65536 : Int) = ((65536 : Nat) : Int) from rfl, remN (by decide), bS, w64i (by omega) (by omega), app_ok (by simp; unfold lim; omega), bS, hq, bS]
   refine .inl ⟨_, rfl, ⟨k / 65536, rfl, by omega, ?_⟩, by simp only []; omega⟩
   rw [← hv, limbs_pos hk0]; simp
 rw [hloop, bS, rmade_eq (by omega) hN, bS]
 congr 2
 rw [cmp_lss]
 by_cases hz : z < 0
 ·rw [dT hz, cond_true]; omega
 ·rw [dF hz, cond_false]; omega
theorem rOver_eq {N k l : Nat} {a b : GInt} (ha : Io k a) (hb : Io l b) (hk : k ≤ 400000) (hl : l ≤ 400000) (hN : 2 ^ 64 ≤ N) : f_ref01_Over N a b = some (R ((ival a : Rat) / ((if ival b = 0 then 1 else ival b : Int) : Rat))) := by
  unfold f_ref01_Over
  have h1 := ha.nl
  have h2 := hb.nl
  rw [rread_val ha (by omega) hN, bS, rread_val hb (by omega) hN, bS]
  simp only [nl_eq, cmp_eql]
  by_cases hb0 : ival b = 0
  · rw [hb0, Int.natAbs_zero, nl_zero, if_pos rfl]
    rw [show decide ((((0 : Nat) : Int)) = 0) = true from rfl, cond_true, rmade_eq (by omega) hN, bS, rOf_eq (by omega) (by omega) hN, bS]
    congr 1
    unfold R
    have e : (ival a : Rat) / ((1 : Int) : Rat) = (ival a : Rat) := by rw [Rat.intCast_one]; grind
    rw [e, Rat.num_intCast, Rat.den_intCast]
    congr 2
    rw [ival_abs]; unfold ival
    cases a.Neg <;> simp
  · have hm0 : (ival b).natAbs ≠ 0 := by omega
    have hlp := nl_pos hm0
    have hg0 : Nat.gcd (ival a).natAbs (ival b).natAbs ≠ 0 := fun e => hm0 (Nat.eq_zero_of_gcd_eq_zero_right e)
    have hgl : nl (Nat.gcd (ival a).natAbs (ival b).natAbs) ≤ nl (ival b).natAbs := nl_mono (Nat.gcd_le_right _ (by omega))
    have hda : nl ((ival a).natAbs / Nat.gcd (ival a).natAbs (ival b).natAbs) ≤ nl (ival a).natAbs := nl_mono (Nat.div_le_self _ _)
    have hdb : nl ((ival b).natAbs / Nat.gcd (ival a).natAbs (ival b).natAbs) ≤ nl (ival b).natAbs := nl_mono (Nat.div_le_self _ _)
    have hR : R ((ival a : Rat) / (ival b : Rat)) = ⟨I (bif (!(a.Neg == b.Neg)) then -(((ival a).natAbs / Nat.gcd (ival a).natAbs (ival b).natAbs : Nat) : Int) else (((ival a).natAbs / Nat.gcd (ival a).natAbs (ival b).natAbs : Nat) : Int)), I (((ival b).natAbs / Nat.gcd (ival a).natAbs (ival b).natAbs : Nat) : Int)⟩ := by
      unfold R
      rw [← Rat.divInt_eq_div, Rat.num_divInt, Rat.den_divInt, if_neg hb0]
      have hgc : Int.gcd (ival b) (ival a) = Nat.gcd (ival a).natAbs (ival b).natAbs := by rw [Int.gcd_eq_natAbs_gcd_natAbs, Nat.gcd_comm]
      rw [hgc]
      have hdvd : ((Nat.gcd (ival a).natAbs (ival b).natAbs : Nat) : Int) ∣ ((ival a).natAbs : Int) := Int.natCast_dvd_natCast.2 (Nat.gcd_dvd_left _ _)
      congr 2
      rw [ival_abs] at *
      rw [ival_abs] at *
      generalize Nat.gcd (val a.Limbs) (val b.Limbs) = g at *
      rw [Int.natCast_ediv]
      have hbp : 0 < val b.Limbs := by omega
      unfold ival
      cases a.Neg <;> cases b.Neg <;> simp only [if_true, Bool.false_eq_true, if_false, Int.sign_neg, Int.sign_eq_one_of_pos (show (0 : Int) < (val b.Limbs : Int) by omega), Int.one_mul, Int.neg_mul, Int.neg_neg, Int.mul_neg] <;> simp [Int.neg_ediv_of_dvd hdvd]
    rw [if_neg hb0, hR, dF (by omega), cond_false, rgcd_eq (by omega) (by omega) hN, bS, rover_eq hg0 (by omega) (by omega) hN, bS, rover_eq hg0 (by omega) (by omega) hN, bS, rmade_eq (by omega) hN, bS, rmade_eq (by omega) hN, bS]
    rfl
theorem rOver_I {N k l : Nat} {a b : Int} (ha : nl a.natAbs ≤ k) (hb : nl b.natAbs ≤ l) (hk : k ≤ 400000) (hl : l ≤ 400000) (hb0 : b ≠ 0) (hN : 2 ^ 64 ≤ N) : f_ref01_Over N (I a) (I b) = some (R ((a : Rat) / (b : Rat))) := by
 rw [rOver_eq (Io.I ha) (Io.I hb) hk hl hN, ival_I, ival_I, if_neg hb0]
theorem rNormRat_eq {N k : Nat} {x : GRat} {q : Rat} (h : Qf k x q) (hk : k ≤ 4000000) (hN : 2 ^ 64 ≤ N) : f_ref01_NormRat N x = some (R q) := by
 unfold f_ref01_NormRat
 rw [rOver_eq h.ion h.iod (by omega) (by omega) hN, ← h.vq]
 rfl
theorem Sz.num {k : Nat} {q : Rat} (h : Sz k q) : nl q.num.natAbs ≤ k / 16 + 1 := nl_pow (by unfold Sz at h; omega)
theorem Sz.den {k : Nat} {q : Rat} (h : Sz k q) : nl ((q.den : Int)).natAbs ≤ k / 16 + 1 := nl_pow (by unfold Sz at h; rw [Int.natAbs_natCast]; omega)
theorem rMulRat_eq {N k l : Nat} {x y : GRat} {p q : Rat} (hx : Qf k x p) (hy : Qf l y q) (hk : k + l ≤ 2000000) (hN : 2 ^ 64 ≤ N) : f_ref01_MulRat N x y = some (R (p * q)) := by
 unfold f_ref01_MulRat
 have hp := hx.sz; have hq := hy.sz
 have h1 := hp.num; have h2 := hp.den; have h3 := hq.num; have h4 := hq.den
 have hn := nl_mul p.num.natAbs q.num.natAbs
 have hd := nl_mul ((p.den : Int)).natAbs ((q.den : Int)).natAbs
 rw [← Int.natAbs_mul] at hn hd
 rw [rNormRat_eq hx (by omega) hN, bS, rNormRat_eq hy (by omega) hN, bS]
 unfold R
 simp only []
 rw [rMul_eq (Io.I h1) (Io.I h3) (by omega) hN, bS, rMul_eq (Io.I h2) (Io.I h4) (by omega) hN, bS, ival_I, ival_I, ival_I, ival_I, rOver_I (Nat.le_refl _) (Nat.le_refl _) (by omega) (by omega) (Int.mul_ne_zero (den_ne p) (den_ne q)) hN, bS]
 congr 1
 have hb1 := rat_ne (den_ne p); have hb2 := rat_ne (den_ne q)
 have e1 := rat_eq p; have e2 := rat_eq q
 rw [Rat.intCast_mul, Rat.intCast_mul]
 show R _ = R _
 congr 1
 conv => rhs; rw [e1, e2]
 grind
theorem rAddRat_eq {N k l : Nat} {x y : GRat} {p q : Rat} (hx : Qf k x p) (hy : Qf l y q) (hk : k + l ≤ 2000000) (hN : 2 ^ 64 ≤ N) : f_ref01_AddRat N x y = some (R (p + q)) := by
 unfold f_ref01_AddRat
 have hp := hx.sz; have hq := hy.sz
 have h1 := hp.num; have h2 := hp.den; have h3 := hq.num; have h4 := hq.den
 have hn1 := nl_mul p.num.natAbs ((q.den : Int)).natAbs
 have hn2 := nl_mul q.num.natAbs ((p.den : Int)).natAbs
 have hd := nl_mul ((p.den : Int)).natAbs ((q.den : Int)).natAbs
 have hn3 := nl_mono (Int.natAbs_add_le (p.num * (q.den : Int)) (q.num * (p.den : Int)))
 have hn4 := nl_add (p.num * (q.den : Int)).natAbs (q.num * (p.den : Int)).natAbs
 rw [← Int.natAbs_mul] at hn1 hn2 hd
 rw [rNormRat_eq hx (by omega) hN, bS, rNormRat_eq hy (by omega) hN, bS]
 unfold R
 simp only []
 rw [rMul_eq (Io.I h1) (Io.I h4) (by omega) hN, bS, rMul_eq (Io.I h3) (Io.I h2) (by omega) hN, bS, ival_I, ival_I, ival_I, ival_I]
 rw [rAdd_eq (Io.I (Nat.le_refl _)) (Io.I (Nat.le_refl _)) (by omega) (by omega) hN, bS, rMul_eq (Io.I h2) (Io.I h4) (by omega) hN, bS, ival_I, ival_I, ival_I, ival_I, rOver_I (Nat.le_refl _) (Nat.le_refl _) (by omega) (by omega) (Int.mul_ne_zero (den_ne p) (den_ne q)) hN, bS]
 congr 1
 have hb1 := rat_ne (den_ne p); have hb2 := rat_ne (den_ne q)
 have e1 := rat_eq p; have e2 := rat_eq q
 rw [Rat.intCast_mul, Rat.intCast_add, Rat.intCast_mul, Rat.intCast_mul]
 show R _ = R _
 congr 1
 conv => rhs; rw [e1, e2]
 grind
theorem rNegRat_eq {N k : Nat} {x : GRat} {q : Rat} (h : Qf k x q) (hk : k ≤ 2000000) (hN : 2 ^ 64 ≤ N) : f_ref01_NegRat N x = some (R (-q)) := by
 unfold f_ref01_NegRat
 have h1 := h.sz.num
 rw [rNormRat_eq h (by omega) hN, bS]
 unfold R
 simp only []
 rw [rNeg_eq (Io.I h1) (by omega) hN, bS, ival_I, Rat.neg_num, Rat.neg_den]
theorem rSubRat_eq {N k l : Nat} {x y : GRat} {p q : Rat} (hx : Qf k x p) (hy : Qf l y q) (hk : k + l + 17 ≤ 2000000) (hN : 2 ^ 64 ≤ N) : f_ref01_SubRat N x y = some (R (p - q)) := by
 unfold f_ref01_SubRat
 rw [rNegRat_eq hy (by omega) hN, bS, rAddRat_eq hx (Qf.R hy.sz.neg) (by omega) hN, bS, Rat.sub_eq_add_neg]
theorem rSignRat_eq {N k : Nat} {x : GRat} {q : Rat} (h : Qf k x q) (hk : k ≤ 2000000) (hN : 2 ^ 64 ≤ N) : f_ref01_SignRat N x = some (sgnQ q) := by
 unfold f_ref01_SignRat
 have h1 := h.sz.num
 rw [rNormRat_eq h (by omega) hN, bS]
 unfold R
 simp only []
 rw [rSign_eq (Io.I h1) (by omega) hN, bS, ival_I, sgnQ_num]
theorem rCmpRat_eq {N k l : Nat} {x y : GRat} {p q : Rat} (hx : Qf k x p) (hy : Qf l y q) (hk : k + l + 34 ≤ 2000000) (hN : 2 ^ 64 ≤ N) : f_ref01_CmpRat N x y = some (cmpQ p q) := by
 unfold f_ref01_CmpRat cmpQ
 rw [rSubRat_eq hx hy (by omega) hN, bS, rSignRat_eq (Qf.R (hx.sz.sub hy.sz)) (by omega) hN]
 rfl
theorem rQuoRat_eq {N k l : Nat} {x y : GRat} {p q : Rat} (hx : Qf k x p) (hy : Qf l y q) (hk : k + l ≤ 2000000) (hq0 : q ≠ 0) (hN : 2 ^ 64 ≤ N) : f_ref01_QuoRat N x y = some (R (p / q)) := by
 unfold f_ref01_QuoRat
 have hp := hx.sz; have hq := hy.sz
 have h1 := hp.num; have h2 := hp.den; have h3 := hq.num; have h4 := hq.den
 have hn := nl_mul p.num.natAbs ((q.den : Int)).natAbs
 have hd := nl_mul ((p.den : Int)).natAbs q.num.natAbs
 rw [← Int.natAbs_mul] at hn hd
 have hqn : q.num ≠ 0 := fun e => hq0 (Rat.num_eq_zero.1 e)
 rw [rNormRat_eq hx (by omega) hN, bS, rNormRat_eq hy (by omega) hN, bS]
 unfold R
 simp only []
 rw [rMul_eq (Io.I h1) (Io.I h4) (by omega) hN, bS, rMul_eq (Io.I h2) (Io.I h3) (by omega) hN, bS, ival_I, ival_I, ival_I, ival_I, rOver_I (Nat.le_refl _) (Nat.le_refl _) (by omega) (by omega) (Int.mul_ne_zero (den_ne p) hqn) hN, bS]
 congr 1
 have hb1 := rat_ne (den_ne p); have hb2 := rat_ne (den_ne q); have hb3 := rat_ne hqn
 have e1 := rat_eq p; have e2 := rat_eq q
 rw [Rat.intCast_mul, Rat.intCast_mul]
 show R _ = R _
 congr 1
 conv => rhs; rw [e1, e2]
 grind
end Go.KB
