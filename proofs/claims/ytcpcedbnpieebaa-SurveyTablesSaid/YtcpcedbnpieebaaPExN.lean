/- Plain laws of the exact package: sums, differences and products of natural numbers. No condition. -/
import Derived.Test.YtcpcedbnpieebaaPNat
namespace Go.KB
set_option linter.unusedVariables false

theorem plus_core {N : Nat} {a b : List Int} (ha : Dig a) (hb : Dig b) (hab : b.length ≤ a.length) (hl : a.length ≤ 1000000) (hN : 2 ^ 64 ≤ N) :
    ∃ o, loopN (f_exact_plus_L1 N (a, b)) N ([], 0, 0) = some o ∧ Dig o.1 ∧ o.1.length = a.length ∧ ∃ c : Nat, c < 2 ∧ o.2 = c ∧ val o.1 + 65536 ^ a.length * c = val a + val b := by
  refine loopN_of (f := f_exact_plus_L1 N (a, b)) (fun s => ∃ i c : Nat, i ≤ a.length ∧ c < 2 ∧ s.2 = ((c : Int), (i : Int)) ∧ Dig s.1 ∧ s.1.length = i ∧ val s.1 + 65536 ^ i * c = val (a.take i) + val (b.take i)) (fun s => a.length - s.2.2.toNat) _ ?_ N _ ⟨0, 0, by omega, by omega, rfl, dig_nil, rfl, by simp [val]⟩ (by simp; omega)
  rintro ⟨acc, cc, ii⟩ ⟨i, c, hi, hc, hs, hd, hlen, hv⟩
  simp only [Prod.mk.injEq] at hs hd hlen hv; obtain ⟨rfl, rfl⟩ := hs
  unfold f_exact_plus_L1
  by_cases hlt : i < a.length
  · have hx := ldg_lt ha i
    have hy := ldg_lt hb i
    have hstep : (bif decide ((i : Int) < (List.length b : Int)) then (idx b (i : Int)).bind fun v7 => some (IntKind.u32.wrap (IntKind.u32.wrap ((c : Int) + IntKind.u32.wrap ((ldg a i : Nat) : Int)) + IntKind.u32.wrap v7)) else some (IntKind.u32.wrap ((c : Int) + IntKind.u32.wrap ((ldg a i : Nat) : Int)))) = some ((c + ldg a i + ldg b i : Nat) : Int) := by
      by_cases hb' : i < b.length
      · simp (disch := omega) only [dT, cond_true, idx_dg hb, Option.bind_some, u32i]
        norm_cast
      · rw [ldg_out (l := b) (by omega)]
        simp (disch := omega) only [dF, cond_false, u32i]
        norm_cast
    refine .inl ⟨(acc ++ [(((c + ldg a i + ldg b i) % 65536 : Nat) : Int)], (((c + ldg a i + ldg b i) / 65536 : Nat) : Int), ((i + 1 : Nat) : Int)), ?_, ⟨i + 1, (c + ldg a i + ldg b i) / 65536, by omega, by omega, rfl, ?_, ?_, ?_⟩, by simp; omega⟩
    · simp (disch := omega) only [cmp_lss, dT, cond_true, idx_dg ha, Option.bind_some]
      rw [hstep]
      simp only [Option.bind_some, u16w]
      rw [app_ok (by simp; unfold lim; omega), Option.bind_some, shr16i (by decide), Option.bind_some, w64s (by omega), Int.natCast_emod, Int.natCast_ediv]
      rfl
    · exact dig_app hd (dig_one (by omega) (by omega))
    · simp [hlen]
    · rw [val_app1, val_take_succ, val_take_succ, hlen, Int.toNat_natCast, Nat.pow_succ]
      have := Nat.div_add_mod (c + ldg a i + ldg b i) 65536
      generalize 65536 ^ i = P at *
      grind
  · obtain rfl : i = a.length := by omega
    refine .inr ⟨(acc, (c : Int)), ?_, hd, hlen, c, hc, rfl, ?_⟩
    · simp (disch := omega) only [cmp_lss, dF, cond_false]
    · rw [hv, List.take_length, List.take_of_length_le hab]
theorem plus_eq {N m n : Nat} (hm : nl m ≤ 900000) (hn : nl n ≤ 900000) (hN : 2 ^ 64 ≤ N) : f_exact_plus N (limbs m) (limbs n) = some (limbs (m + n)) := by
  have key : ∀ {x y : Nat}, nl y ≤ nl x → nl x ≤ 900000 → ((mk 0 0 (IntKind.i64.wrap ((List.length (limbs x) : Int) + 1))).bind fun v4 => (loopN (f_exact_plus_L1 N (limbs x, limbs y)) N (v4, 0, 0)).bind fun o14 => (app o14.1 [(IntKind.u16.wrap o14.2)]).bind fun v16 => (f_exact_trim N v16).bind fun v17 => some v17) = some (limbs (x + y)) := by
    intro x y hxy hx
    have hmk : mk (0 : Int) 0 (IntKind.i64.wrap ((List.length (limbs x) : Int) + 1)) = some [] := by
      rw [nl_eq, w64i (by omega) (by omega)]
      unfold mk
      rw [show (decide ((0 : Int) ≤ 0) && decide ((0 : Int) ≤ (nl x : Int) + 1) && decide ((nl x : Int) + 1 ≤ (lim : Int))) = true by simp only [Bool.and_eq_true, decide_eq_true_eq]; unfold lim; omega]
      rfl
    obtain ⟨o, ho, hd, hlen, c, hc, hoc, hv⟩ := plus_core (N := N) (dig_limbs x) (dig_limbs y) hxy (by rw [nl_eq]; omega) hN
    rw [hmk, Option.bind_some, ho, Option.bind_some, app_ok (by simp only [hlen, nl_eq]; simp; unfold lim; omega), Option.bind_some]
    rw [limbs_of (n := x + y) (dig_app hd (dig_one (by rw [u16w]; omega) (by rw [u16w]; omega))) ?_ (by simp [hlen, nl_eq]; omega) (by simp [hlen, nl_eq]; omega), Option.bind_some]
    rw [val_app1, hoc, u16w, hlen]
    rw [val_limbs, val_limbs] at hv
    rw [← hv]; congr 2; omega
  unfold f_exact_plus
  by_cases h : nl m < nl n
  · rw [show cmpI .lss (List.length (limbs m) : Int) (List.length (limbs n) : Int) = true by simp only [nl_eq, cmp_lss, decide_eq_true_eq]; omega, cond_true, Option.bind_some, key (by omega) hn, Nat.add_comm]
  · rw [show cmpI .lss (List.length (limbs m) : Int) (List.length (limbs n) : Int) = false by simp only [nl_eq, cmp_lss, decide_eq_false_iff_not]; omega, cond_false, Option.bind_some, key (by omega) hm]

theorem mk_rep {n : Int} (h0 : 0 ≤ n) (h1 : n ≤ 274877906944) : mk (0 : Int) n n = some (List.replicate n.toNat 0) := by
  unfold mk
  rw [show (decide ((0 : Int) ≤ n) && decide (n ≤ n) && decide (n ≤ (lim : Int))) = true by simp only [Bool.and_eq_true, decide_eq_true_eq]; unfold lim; omega]
  rfl
theorem minus_eq {N m n : Nat} (hle : n ≤ m) (hm : nl m ≤ 900000) (hN : 2 ^ 64 ≤ N) : f_exact_minus N (limbs m) (limbs n) = some (limbs (m - n)) := by
  have ha := dig_limbs m
  have hb := dig_limbs n
  have hbl : (limbs n).length ≤ (limbs m).length := nl_mono hle
  have hal : (limbs m).length ≤ 900000 := hm
  have hvm := val_limbs m
  have hvn := val_limbs n
  generalize limbs m = a at *
  generalize limbs n = b at *
  unfold f_exact_minus
  rw [mk_rep (by omega) (by omega), Option.bind_some, Int.toNat_natCast]
  obtain ⟨o, ho, hd, hlen, hv⟩ := loopN_of (f := f_exact_minus_L1 N a b) (fun s => ∃ i c : Nat, i ≤ a.length ∧ c < 2 ∧ s.2 = ((c : Int), (i : Int)) ∧ Dig s.1 ∧ s.1.length = a.length ∧ val (s.1.take i) + val (b.take i) = val (a.take i) + 65536 ^ i * c) (fun s => a.length - s.2.2.toNat)
    (fun o => Dig o ∧ o.length = a.length ∧ ∃ c : Nat, c < 2 ∧ val o + val b = val a + 65536 ^ a.length * c) (by
    rintro ⟨acc, cc, ii⟩ ⟨i, c, hi, hc, hs, hd, hlen, hv⟩
    simp only [Prod.mk.injEq] at hs hd hlen hv; obtain ⟨rfl, rfl⟩ := hs
    unfold f_exact_minus_L1
    by_cases hlt : i < a.length
    · have hx := ldg_lt ha i
      have hy := ldg_lt hb i
      have hstep : (bif decide ((i : Int) < (List.length b : Int)) then (idx b (i : Int)).bind fun v4 => some (IntKind.u32.wrap ((c : Int) + IntKind.u32.wrap v4)) else some ((c : Int))) = some ((c + ldg b i : Nat) : Int) := by
        by_cases hb' : i < b.length
        · simp (disch := omega) only [dT, cond_true, idx_dg hb, Option.bind_some, u32i]
          norm_cast
        · rw [ldg_out (l := b) (by omega)]
          simp (disch := omega) only [dF, cond_false]
          norm_cast
      refine .inl ?_
      have h1 : shlI .u32 1 16 = some 65536 := by decide
      have h2 : shlI .u32 0 16 = some 0 := by decide
      have hix : idx acc (i : Int) = some acc[i] := idx_nat (by omega)
      by_cases hborrow : ldg a i < c + ldg b i
      · refine ⟨(acc.set i ((ldg a i : Int) + 65536 - ((c + ldg b i : Nat) : Int)), 1, ((i + 1 : Nat) : Int)), ?_, ⟨i + 1, 1, by omega, by omega, rfl, dig_set hd (by omega) (by omega), by simp [hlen], ?_⟩, by simp; omega⟩
        · simp (disch := omega) only [cmp_lss, dT, cond_true, idx_dg ha, Option.bind_some]
          rw [hstep]
          simp (disch := omega) only [Option.bind_some, u32i, dT, cond_true, h1, u16w, hix, w64s, Int.toNat_natCast]
          rw [show ((ldg a i : Int) + 65536 - ((c + ldg b i : Nat) : Int)) % 65536 = (ldg a i : Int) + 65536 - ((c + ldg b i : Nat) : Int) by omega]
        · simp only [val_take_succ, take_set_ge (Nat.le_refl i), ldg_set_same (show i < acc.length by omega), Nat.pow_succ]
          generalize hP : 65536 ^ i = P at *
          generalize hx' : ldg a i = x at *
          generalize hy' : ldg b i = y at *
          have : ((x : Int) + 65536 - ((c + y : Nat) : Int)).toNat = x + 65536 - c - y := by omega
          rw [this]
          have e : x + 65536 - c - y + c + y = x + 65536 := by omega
          generalize x + 65536 - c - y = z at *
          have := congrArg (P * ·) e
          simp only [Nat.mul_add] at this
          grind
      · refine ⟨(acc.set i ((ldg a i : Int) - ((c + ldg b i : Nat) : Int)), 0, ((i + 1 : Nat) : Int)), ?_, ⟨i + 1, 0, by omega, by omega, rfl, dig_set hd (by omega) (by omega), by simp [hlen], ?_⟩, by simp; omega⟩
        · simp (disch := omega) only [cmp_lss, dT, cond_true, idx_dg ha, Option.bind_some]
          rw [hstep]
          simp (disch := omega) only [Option.bind_some, u32i, dF, cond_false, h2, u16w, hix, w64s, Int.toNat_natCast]
          rw [show ((ldg a i : Int) + 0 - ((c + ldg b i : Nat) : Int)) % 65536 = (ldg a i : Int) - ((c + ldg b i : Nat) : Int) by omega]
        · simp only [val_take_succ, take_set_ge (Nat.le_refl i), ldg_set_same (show i < acc.length by omega), Nat.pow_succ]
          generalize hP : 65536 ^ i = P at *
          generalize hx' : ldg a i = x at *
          generalize hy' : ldg b i = y at *
          have : ((x : Int) - ((c + y : Nat) : Int)).toNat = x - c - y := by omega
          rw [this]
          have e : x - c - y + c + y = x := by omega
          generalize x - c - y = z at *
          have := congrArg (P * ·) e
          simp only [Nat.mul_add] at this
          grind
    · obtain rfl : i = a.length := by omega
      refine .inr ⟨acc, ?_, hd, hlen, c, hc, ?_⟩
      · simp (disch := omega) only [cmp_lss, dF, cond_false]
      · rw [List.take_of_length_le (l := acc) (by omega), List.take_of_length_le hbl, List.take_length] at hv; exact hv) N (List.replicate a.length 0, 0, 0) ⟨0, 0, by omega, by omega, rfl, dig_rep _, by simp, by simp [val]⟩ (by simp; omega)
  rw [ho, Option.bind_some]
  obtain ⟨c, hc, hv⟩ := hv
  have h1 := val_lt hd
  rw [hlen] at h1
  have hc0 : c = 0 := by
    rcases Nat.lt_or_ge c 1 with h | h
    · omega
    · have : c = 1 := by omega
      subst this
      omega
  subst hc0
  rw [limbs_of hd (n := m - n) (by omega) (by omega) (by omega)]
  rfl
end Go.KB
