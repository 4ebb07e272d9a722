/- Plain laws of the reference's long arithmetic: natural numbers. No condition. -/
import Derived.Test.YtcpcedbnpieebaaPExQ
namespace Go.KB
set_option linter.unusedVariables false

theorem rquoN {a g : Nat} (h : a < 9223372036854775808) (h0 : g ≠ 0) : quoI .i64 (a : Int) (g : Int) = some ((a / g : Nat) : Int) := by
  unfold quoI
  have := Nat.div_le_self a g
  rw [if_neg (by omega), ← Int.ofNat_tdiv, w64n (by omega)]
theorem norm_take {l : List Int} {n : Nat} (hd : Dig l) (hn : n ≤ l.length) (h : n = 0 ∨ ldg l (n - 1) ≠ 0) : Norm (l.take n) := by
  refine ⟨dig_take hd n, fun hne => ?_⟩
  have hlen : (l.take n).length = n := by rw [List.length_take]; omega
  have h0 : n ≠ 0 := fun e => by subst e; simp at hne
  rw [List.getLast_eq_getElem]
  have h1 : ldg l (n - 1) ≠ 0 := h.resolve_left h0
  have h2 : (l.take n)[(l.take n).length - 1]'(by omega) = l[n - 1]'(by omega) := by rw [List.getElem_take]; congr 1; omega
  rw [h2]
  rw [ldg_get (by omega)] at h1
  omega
theorem rtrim_eq {N : Nat} {l : List Int} (hd : Dig l) (hl : l.length ≤ 2000000) (hN : 2 ^ 64 ≤ N) : f_ref01_trim N l = some (limbs (val l)) := by
  unfold f_ref01_trim
  obtain ⟨o, ho, n, hn, rfl, hv, hz⟩ := loopN_of (f := f_ref01_trim_L1 N l) (fun s => ∃ n : Nat, n ≤ l.length ∧ s = (n : Int) ∧ val (l.take n) = val l) (fun s => s.toNat) (fun o => ∃ n : Nat, n ≤ l.length ∧ o = (n : Int) ∧ val (l.take n) = val l ∧ (n = 0 ∨ ldg l (n - 1) ≠ 0)) (by
    rintro s ⟨n, hn, rfl, hv⟩
    unfold f_ref01_trim_L1
    cases n with
    | zero =>
      refine .inr ⟨0, ?_, 0, by omega, rfl, hv, .inl rfl⟩
      rfl
    | succ n =>
      have e1 : IntKind.i64.wrap (((n + 1 : Nat) : Int) - 1) = ((n : Nat) : Int) := by rw [w64i (by omega) (by omega)]; omega
      rw [cmp_gtr, dT (by omega), cond_true, e1, idx_dg hd (by omega), Option.bind_some, Bool.true_and, cmp_eql]
      by_cases h0 : ldg l n = 0
      · rw [dT (by omega), cond_true]
        refine .inl ⟨_, rfl, ⟨n, by omega, rfl, ?_⟩, by omega⟩
        rw [val_take_succ, h0] at hv; simpa using hv
      · rw [dF (by omega), cond_false]
        exact .inr ⟨_, rfl, n + 1, hn, rfl, hv, .inr h0⟩) N _ ⟨l.length, Nat.le_refl _, rfl, by rw [List.take_length]⟩ (by omega)
  rw [ho, Option.bind_some, slc_take hn, Option.bind_some, app_ok (by simp; unfold lim; omega), Option.bind_some, List.nil_append, ← hv, limbs_val (norm_take hd hn hz)]
theorem rdigit_eq {N i : Nat} {l : List Int} (hd : Dig l) : f_ref01_digit N l (i : Int) = some ((ldg l i : Nat) : Int) := by
  unfold f_ref01_digit
  by_cases h : i < l.length
  · rw [cmp_lss, dT (by omega), cond_true, idx_dg hd h]; rfl
  · rw [cmp_lss, dF (by omega), cond_false, ldg_out (by omega)]; rfl
theorem rread_eq {N : Nat} {l : List Int} (hd : Dig l) (hl : l.length ≤ 1000000) (hN : 2 ^ 64 ≤ N) : f_ref01_read N l = some (limbs (val l)) := by
  unfold f_ref01_read
  have := loopN_fold (f := f_ref01_read_L1 N l) l.length (fun i => l.take i) l (by
    intro i hi
    unfold f_ref01_read_L1
    have hg := ldg_lt hd i
    simp (disch := omega) only [cmp_lss, dT, cond_true, idx_dg hd, Option.bind_some, w64i]
    rw [app_ok (by simp; unfold lim; omega), Option.bind_some, List.take_succ_eq_append_getElem hi, ldg_int hd hi]
    rfl) (by
    unfold f_ref01_read_L1
    simp (disch := omega) only [cmp_lss, dF, cond_false, List.take_length]) N (by omega)
  rw [List.take_zero] at this
  rw [this, Option.bind_some, rtrim_eq hd (by omega) hN]; rfl
theorem rplus_eq {N m n : Nat} (hm : nl m ≤ 900000) (hn : nl n ≤ 900000) (hN : 2 ^ 64 ≤ N) : f_ref01_plus N (limbs m) (limbs n) = some (limbs (m + n)) := by
  have ha := dig_limbs m
  have hb := dig_limbs n
  have hal : (limbs m).length ≤ 900000 := hm
  have hbl : (limbs n).length ≤ 900000 := hn
  have hvm := val_limbs m
  have hvn := val_limbs n
  generalize limbs m = a at *
  generalize limbs n = b at *
  unfold f_ref01_plus
  obtain ⟨o, ho, hd, hlen, hv⟩ := loopN_of (f := f_ref01_plus_L1 N a b) (fun s => ∃ i c : Nat, i ≤ 900001 ∧ c < 2 ∧ s.2 = ((c : Int), (i : Int)) ∧ Dig s.1 ∧ s.1.length = i ∧ val s.1 + 65536 ^ i * c = val (a.take i) + val (b.take i) ∧ (i = 900001 → c = 0)) (fun s => 900002 - s.2.2.toNat)
    (fun o => Dig o ∧ o.length ≤ 900001 ∧ val o = val a + val b) (by
    rintro ⟨acc, cc, ii⟩ ⟨i, c, hi, hc, hs, hd, hlen, hv, hz⟩
    simp only [Prod.mk.injEq] at hs hd hlen hv; obtain ⟨rfl, rfl⟩ := hs
    unfold f_ref01_plus_L1
    simp only [cmp_lss, cmp_gtr]
    by_cases hgo : i < a.length ∨ i < b.length ∨ 0 < c
    · have hx := ldg_lt ha i
      have hy := ldg_lt hb i
      have hcond : ((decide ((i : Int) < (a.length : Int)) || decide ((i : Int) < (b.length : Int))) || decide ((0 : Int) < (c : Int))) = true := by
        simp only [Bool.or_eq_true, decide_eq_true_eq]; omega
      have hile : i ≤ 900000 := by omega
      rw [hcond, cond_true, rdigit_eq ha, Option.bind_some, rdigit_eq hb, Option.bind_some]
      have e1 : IntKind.i64.wrap (IntKind.i64.wrap (((ldg a i : Nat) : Int) + ((ldg b i : Nat) : Int)) + (c : Int)) = ((ldg a i + ldg b i + c : Nat) : Int) := by
        rw [w64i (n := ((ldg a i : Nat) : Int) + ((ldg b i : Nat) : Int)) (by omega) (by omega), w64i (by omega) (by omega)]; omega
      rw [e1, show (65536 : Int) = ((65536 : Nat) : Int) from rfl, remN (by decide), Option.bind_some, app_ok (by simp; unfold lim; omega), Option.bind_some, rquoN (by omega) (by decide), Option.bind_some, w64s (by omega)]
      refine .inl ⟨_, rfl, ⟨i + 1, (ldg a i + ldg b i + c) / 65536, by omega, by omega, rfl, dig_app hd (dig_one (by omega) (by omega)), by simp [hlen], ?_, ?_⟩, by simp; omega⟩
      · rw [val_app1, val_take_succ, val_take_succ, hlen, Int.toNat_natCast, Nat.pow_succ]
        have h2 := Nat.mod_add_div (ldg a i + ldg b i + c) 65536
        generalize (ldg a i + ldg b i + c) % 65536 = mm at *
        generalize (ldg a i + ldg b i + c) / 65536 = dd at *
        generalize 65536 ^ i = P at *
        have h3 : P * (mm + 65536 * dd) = P * (ldg a i + ldg b i + c) := by rw [h2]
        clear e1 hcond
        grind
      · intro h
        rw [ldg_out (l := a) (by omega), ldg_out (l := b) (by omega)]; omega
    · have hcond : ((decide ((i : Int) < (a.length : Int)) || decide ((i : Int) < (b.length : Int))) || decide ((0 : Int) < (c : Int))) = false := by
        simp only [Bool.or_eq_false_iff, decide_eq_false_iff_not]; omega
      rw [hcond, cond_false]
      refine .inr ⟨_, rfl, hd, by omega, ?_⟩
      rw [List.take_of_length_le (by omega), List.take_of_length_le (by omega), show c = 0 by omega] at hv
      simpa using hv) N ([], 0, 0) ⟨0, 0, by omega, by omega, rfl, dig_nil, rfl, by simp [val], by omega⟩ (by simp only []; omega)
  rw [ho, Option.bind_some, rtrim_eq hd (by omega) hN, hv, hvm, hvn]; rfl
theorem rminus_eq {N m n : Nat} (hle : n ≤ m) (hm : nl m ≤ 900000) (hN : 2 ^ 64 ≤ N) : f_ref01_minus N (limbs m) (limbs n) = some (limbs (m - n)) := by
  have ha := dig_limbs m
  have hb := dig_limbs n
  have hbl : (limbs n).length ≤ (limbs m).length := nl_mono hle
  have hal : (limbs m).length ≤ 900000 := hm
  have hvm := val_limbs m
  have hvn := val_limbs n
  generalize limbs m = a at *
  generalize limbs n = b at *
  unfold f_ref01_minus
  obtain ⟨o, ho, hd, hlen, hv⟩ := loopN_of (f := f_ref01_minus_L1 N a b) (fun s => ∃ i c : Nat, i ≤ a.length ∧ c < 2 ∧ s.2 = ((c : Int), (i : Int)) ∧ Dig s.1 ∧ s.1.length = i ∧ val s.1 + val (b.take i) = val (a.take i) + 65536 ^ i * c) (fun s => a.length - s.2.2.toNat)
    (fun o => Dig o ∧ o.length = a.length ∧ ∃ c : Nat, c < 2 ∧ val o + val b = val a + 65536 ^ a.length * c) (by
    rintro ⟨acc, cc, ii⟩ ⟨i, c, hi, hc, hs, hd, hlen, hv⟩
    simp only [Prod.mk.injEq] at hs hd hlen hv; obtain ⟨rfl, rfl⟩ := hs
    unfold f_ref01_minus_L1
    simp only [cmp_lss]
    by_cases hlt : i < a.length
    · have hx := ldg_lt ha i
      have hy := ldg_lt hb i
      have e1 : IntKind.i64.wrap (IntKind.i64.wrap (((ldg a i : Nat) : Int) - ((ldg b i : Nat) : Int)) - (c : Int)) = (((ldg a i : Nat) : Int) - ((ldg b i : Nat) : Int) - (c : Int)) := by
        rw [w64i (n := ((ldg a i : Nat) : Int) - ((ldg b i : Nat) : Int)) (by omega) (by omega), w64i (by omega) (by omega)]
      rw [dT (by omega), cond_true, idx_dg ha hlt, Option.bind_some, rdigit_eq hb, Option.bind_some, e1]
      by_cases hneg : ldg a i < ldg b i + c
      · rw [dT (by omega), cond_true, w64i (n := ((ldg a i : Nat) : Int) - ((ldg b i : Nat) : Int) - (c : Int) + 65536) (by omega) (by omega), app_ok (by simp; unfold lim; omega), Option.bind_some, w64s (by omega)]
        refine .inl ⟨_, rfl, ⟨i + 1, 1, by omega, by omega, rfl, dig_app hd (dig_one (by omega) (by omega)), by simp [hlen], ?_⟩, by simp; omega⟩
        rw [val_app1, val_take_succ, val_take_succ, hlen, Nat.pow_succ]
        have e2 : (((ldg a i : Nat) : Int) - ((ldg b i : Nat) : Int) - (c : Int) + 65536).toNat + ldg b i + c = ldg a i + 65536 := by omega
        generalize (((ldg a i : Nat) : Int) - ((ldg b i : Nat) : Int) - (c : Int) + 65536).toNat = z at *
        generalize 65536 ^ i = P at *
        have h3 : P * (z + ldg b i + c) = P * (ldg a i + 65536) := by rw [e2]
        clear e1
        grind
      · rw [dF (by omega), cond_false, app_ok (by simp; unfold lim; omega), Option.bind_some, w64s (by omega)]
        refine .inl ⟨_, rfl, ⟨i + 1, 0, by omega, by omega, rfl, dig_app hd (dig_one (by omega) (by omega)), by simp [hlen], ?_⟩, by simp; omega⟩
        rw [val_app1, val_take_succ, val_take_succ, hlen, Nat.pow_succ]
        have e2 : (((ldg a i : Nat) : Int) - ((ldg b i : Nat) : Int) - (c : Int)).toNat + ldg b i + c = ldg a i := by omega
        generalize (((ldg a i : Nat) : Int) - ((ldg b i : Nat) : Int) - (c : Int)).toNat = z at *
        generalize 65536 ^ i = P at *
        have h3 : P * (z + ldg b i + c) = P * (ldg a i) := by rw [e2]
        clear e1
        grind
    · obtain rfl : i = a.length := by omega
      rw [dF (by omega), cond_false]
      refine .inr ⟨_, rfl, hd, hlen, c, hc, ?_⟩
      rw [List.take_of_length_le hbl, List.take_length] at hv; exact hv) N ([], 0, 0) ⟨0, 0, by omega, by omega, rfl, dig_nil, rfl, by simp [val]⟩ (by simp only []; omega)
  obtain ⟨c, hc, hv⟩ := hv
  have h1 := val_lt hd
  rw [hlen] at h1
  have hc0 : c = 0 := by
    rcases Nat.lt_or_ge c 1 with h | h
    · omega
    · obtain rfl : c = 1 := by omega
      omega
  subst hc0
  rw [ho, Option.bind_some, rtrim_eq hd (by omega) hN, show val o = m - n by omega]; rfl
theorem rtimes_inner {N i x : Nat} {a b out0 : List Int} (ha : Dig a) (hia : i < a.length) (hxa : ldg a i = x) (hb : Dig b) (ho : Dig out0) (hlen : i + b.length < out0.length) (hl : out0.length ≤ 2000000) (hz : ldg out0 (i + b.length) = 0) (hN : 2 ^ 64 ≤ N) :
    ∃ o, loopN (f_ref01_times_L1 N a b (out0, (i : Int))) N (out0, 0, 0) = some o ∧ Dig o ∧ o.length = out0.length ∧ val o = val out0 + 65536 ^ i * (x * val b) := by
  have hx := ldg_lt ha i
  rw [hxa] at hx
  refine loopN_of (fun s => ∃ k c : Nat, k ≤ b.length + 1 ∧ c < 65536 ∧ s.2 = ((c : Int), (k : Int)) ∧ Dig s.1 ∧ s.1.length = out0.length ∧ (k ≤ b.length → ldg s.1 (i + b.length) = 0) ∧ (k = b.length + 1 → c = 0) ∧ val s.1 + 65536 ^ (i + k) * c = val out0 + 65536 ^ i * (x * val (b.take k))) (fun s => b.length + 1 - s.2.2.toNat) _ ?_ N _ ⟨0, 0, by omega, by omega, rfl, ho, rfl, fun _ => hz, by omega, by simp [val]⟩ (by simp only []; omega)
  rintro ⟨out, cc, kk⟩ ⟨k, c, hk, hc, hs, hd, hlo, hz', hc0, hv⟩
  simp only [Prod.mk.injEq] at hs hd hlo hz' hv; obtain ⟨rfl, rfl⟩ := hs
  unfold f_ref01_times_L1
  simp only [cmp_lss, cmp_gtr]
  by_cases hgo : k < b.length ∨ 0 < c
  · have hcond : (decide ((k : Int) < (b.length : Int)) || decide ((0 : Int) < (c : Int))) = true := by simp only [Bool.or_eq_true, decide_eq_true_eq]; omega
    have hkb : k ≤ b.length := by omega
    have hy := ldg_lt hb k
    have hu := ldg_lt hd (i + k)
    have hxy := dig_mul_lt hx hy
    have hik : IntKind.i64.wrap ((i : Int) + (k : Int)) = ((i + k : Nat) : Int) := by rw [w64i (by omega) (by omega)]; omega
    have e1 : IntKind.i64.wrap (IntKind.i64.wrap (((ldg out (i + k) : Nat) : Int) + IntKind.i64.wrap (((ldg a i : Nat) : Int) * ((ldg b k : Nat) : Int))) + (c : Int)) = ((ldg out (i + k) + x * ldg b k + c : Nat) : Int) := by
      rw [hxa, ← Int.natCast_mul, w64i (n := ((x * ldg b k : Nat) : Int)) (by omega) (by omega), w64i (n := ((ldg out (i + k) : Nat) : Int) + ((x * ldg b k : Nat) : Int)) (by omega) (by omega), w64i (by omega) (by omega)]; omega
    rw [hcond, cond_true, hik, idx_dg hd (by omega), Option.bind_some, idx_dg ha hia, Option.bind_some, rdigit_eq hb, Option.bind_some, e1, show (65536 : Int) = ((65536 : Nat) : Int) from rfl, remN (by decide), Option.bind_some, Option.bind_some, rquoN (by omega) (by decide), Option.bind_some, w64s (by omega), Int.toNat_natCast]
    refine .inl ⟨_, rfl, ⟨k + 1, (ldg out (i + k) + x * ldg b k + c) / 65536, by omega, by omega, rfl, dig_set hd (by omega) (by omega), by simp [hlo], ?_, ?_, ?_⟩, by simp only []; omega⟩
    · intro h; rw [ldg_set_ne (by omega)]; exact hz' (by omega)
    · intro h
      obtain rfl : k = b.length := by omega
      rw [hz' (Nat.le_refl _), ldg_out (l := b) (Nat.le_refl _)]; omega
    · have h1 := val_set (d := (((ldg out (i + k) + x * ldg b k + c) % 65536 : Nat) : Int)) (show i + k < out.length by omega)
      rw [Int.toNat_natCast] at h1
      rw [val_take_succ]
      have h2 := Nat.mod_add_div (ldg out (i + k) + x * ldg b k + c) 65536
      rw [show i + (k + 1) = i + k + 1 by omega, Nat.pow_succ]
      have hP : 65536 ^ (i + k) = 65536 ^ i * 65536 ^ k := Nat.pow_add _ _ _
      generalize val (out.set (i + k) (((ldg out (i + k) + x * ldg b k + c) % 65536 : Nat) : Int)) = V at *
      generalize (ldg out (i + k) + x * ldg b k + c) % 65536 = m at *
      generalize (ldg out (i + k) + x * ldg b k + c) / 65536 = q at *
      generalize 65536 ^ (i + k) = P at *
      generalize ldg out (i + k) = u at *
      generalize ldg b k = y at *
      generalize 65536 ^ k = Q at *
      generalize 65536 ^ i = RR at *
      have h3 : P * (m + 65536 * q) = P * (u + x * y + c) := by rw [h2]
      subst hP
      clear e1 hcond hik
      grind
  · have hcond : (decide ((k : Int) < (b.length : Int)) || decide ((0 : Int) < (c : Int))) = false := by simp only [Bool.or_eq_false_iff, decide_eq_false_iff_not]; omega
    rw [hcond, cond_false]
    refine .inr ⟨_, rfl, hd, hlo, ?_⟩
    rw [List.take_of_length_le (by omega), show c = 0 by omega] at hv
    simpa using hv
theorem rtimes_eq {N m n : Nat} (hm : nl m ≤ 900000) (hn : nl n ≤ 900000) (hN : 2 ^ 64 ≤ N) : f_ref01_times N (limbs m) (limbs n) = some (limbs (m * n)) := by
  have ha := dig_limbs m
  have hb := dig_limbs n
  have hal : (limbs m).length ≤ 900000 := hm
  have hbl : (limbs n).length ≤ 900000 := hn
  have hvm := val_limbs m
  have hvn := val_limbs n
  generalize limbs m = a at *
  generalize limbs n = b at *
  unfold f_ref01_times
  rw [w64i (n := (a.length : Int) + (b.length : Int)) (by omega) (by omega), w64i (by omega) (by omega), mk_rep (by omega) (by omega), Option.bind_some, show ((a.length : Int) + (b.length : Int) + 1).toNat = a.length + b.length + 1 by omega]
  obtain ⟨o, ho, hd, hlen, hv⟩ := loopN_of (f := f_ref01_times_L2 N a b) (fun s => ∃ i : Nat, i ≤ a.length ∧ s.2 = (i : Int) ∧ Dig s.1 ∧ s.1.length = a.length + b.length + 1 ∧ val s.1 = val (a.take i) * val b) (fun s => a.length - s.2.toNat)
    (fun o => Dig o ∧ o.length = a.length + b.length + 1 ∧ val o = val a * val b) (by
    rintro ⟨out, ii⟩ ⟨i, hi, hs, hd, hlen, hv⟩
    simp only at hs hd hlen hv; subst hs
    unfold f_ref01_times_L2
    simp only [cmp_lss]
    by_cases hlt : i < a.length
    · have hbd : val (a.take i) * val b < 65536 ^ (i + b.length) := by
        have h1 := val_lt (dig_take ha i)
        have h2 : 65536 ^ (a.take i).length ≤ 65536 ^ i := Nat.pow_le_pow_right (by decide) (by rw [List.length_take]; omega)
        rw [Nat.pow_add]
        exact Nat.mul_lt_mul'' (by omega) (val_lt hb)
      obtain ⟨o, ho, hd', hlen', hv'⟩ := rtimes_inner (N := N) (i := i) ha hlt rfl hb hd (by omega) (by omega) (ldg_zero (by rw [hv]; exact hbd)) hN
      rw [dT (by omega), cond_true, ho, Option.bind_some, w64s (by omega)]
      refine .inl ⟨_, rfl, ⟨i + 1, by omega, rfl, hd', hlen'.trans hlen, ?_⟩, by simp; omega⟩
      rw [hv', hv, val_take_succ]; grind
    · obtain rfl : i = a.length := by omega
      rw [dF (by omega), cond_false]
      refine .inr ⟨_, rfl, hd, hlen, ?_⟩
      rw [List.take_length] at hv; exact hv) N (List.replicate (a.length + b.length + 1) 0, 0) ⟨0, by omega, rfl, dig_rep _, by simp, by simp [val, val_rep]⟩ (by simp only []; omega)
  rw [ho, Option.bind_some, rtrim_eq hd (by omega) hN, hv, hvm, hvn]; rfl
theorem rcompare_eq {N a b : Nat} (ha : nl a ≤ 1000000) (hb : nl b ≤ 1000000) (hN : 2 ^ 64 ≤ N) : ∃ c, f_ref01_compare N (limbs a) (limbs b) = some c ∧ (c < 0 ↔ a < b) ∧ (c = 0 ↔ a = b) := by
  have hda := dig_limbs a
  have hdb := dig_limbs b
  unfold f_ref01_compare
  simp only [nl_eq, cmp_neq]
  by_cases hlen : nl a = nl b
  · rw [hlen, dT rfl, Bool.not_true, cond_false]
    obtain ⟨o, ho, hp⟩ := loopN_of (f := f_ref01_compare_L1 N (limbs a) (limbs b)) (fun s => ∃ k : Nat, k ≤ nl b ∧ s = (k : Int) - 1 ∧ (limbs a).drop k = (limbs b).drop k) (fun s => (s + 1).toNat)
      (fun o => match o with | .inl _ => a = b | .inr c => (c < 0 ↔ a < b) ∧ (c = 0 ↔ a = b)) (by
      rintro s ⟨k, hk, rfl, he⟩
      unfold f_ref01_compare_L1
      simp only [cmp_geq, cmp_neq]
      cases k with
      | zero =>
        rw [dF (by omega), cond_false]
        refine .inr ⟨_, rfl, ?_⟩
        have : limbs a = limbs b := by simpa using he
        show a = b
        rw [← val_limbs a, ← val_limbs b, this]
      | succ k =>
        have hxa := ldg_lt hda k
        have hxb := ldg_lt hdb k
        have hka : k < (limbs a).length := by rw [nl_eq]; omega
        have hkb : k < (limbs b).length := by rw [nl_eq]; omega
        rw [show ((k + 1 : Nat) : Int) - 1 = (k : Int) by omega, dT (by omega), cond_true, idx_dg hda hka, Option.bind_some, idx_dg hdb hkb, Option.bind_some]
        by_cases hne : ldg (limbs a) k = ldg (limbs b) k
        · rw [dT (by omega), Bool.not_true, cond_false, w64i (by omega) (by omega)]
          refine .inl ⟨_, rfl, ⟨k, by omega, rfl, ?_⟩, by omega⟩
          rw [List.drop_eq_getElem_cons hka, List.drop_eq_getElem_cons hkb, he, ldg_int hda hka, ldg_int hdb hkb, hne]
        · rw [dF (by omega), Bool.not_false, cond_true, Option.bind_some, Option.bind_some, w64i (by omega) (by omega)]
          refine .inr ⟨_, rfl, ?_⟩
          have key : ∀ {x y : Nat}, (hx : k < (limbs x).length) → (hy : k < (limbs y).length) → (limbs x).drop (k + 1) = (limbs y).drop (k + 1) → ldg (limbs x) k < ldg (limbs y) k → x < y := by
            intro x y hx hy hdr hlt
            have := cmp_digit (dig_limbs x) (dig_limbs y) hx hy hdr (by rw [ldg_int (dig_limbs x) hx, ldg_int (dig_limbs y) hy]; omega)
            rwa [val_limbs, val_limbs] at this
          rcases Nat.lt_or_gt_of_ne hne with h | h
          · have := key hka hkb he h
            exact ⟨⟨fun _ => this, fun _ => by omega⟩, ⟨fun _ => by omega, fun _ => by omega⟩⟩
          · have := key hkb hka he.symm h
            exact ⟨⟨fun _ => by omega, fun _ => by omega⟩, ⟨fun _ => by omega, fun _ => by omega⟩⟩) N (IntKind.i64.wrap (((nl b : Nat) : Int) - 1)) ⟨nl b, Nat.le_refl _, by rw [w64i (by omega) (by omega)], by rw [List.drop_of_length_le (by rw [nl_eq]; omega), List.drop_of_length_le (by rw [nl_eq]; omega)]⟩ (by rw [w64i (by omega) (by omega)]; omega)
    rw [ho, Option.bind_some]
    cases o with
    | inl u => exact ⟨0, rfl, ⟨fun h => by omega, fun h => by have : a = b := hp; omega⟩, ⟨fun _ => hp, fun _ => rfl⟩⟩
    | inr c => exact ⟨c, rfl, hp⟩
  · rw [dF (by omega), Bool.not_false, cond_true, w64i (by omega) (by omega)]
    refine ⟨_, rfl, ?_⟩
    have k1 : nl a < nl b → a < b := fun h => limbs_lt_len h
    have k2 : nl b < nl a → b < a := fun h => limbs_lt_len h
    have k3 : a = b → nl a = nl b := fun h => by rw [h]
    constructor <;> constructor <;> intro h <;> omega
end Go.KB
