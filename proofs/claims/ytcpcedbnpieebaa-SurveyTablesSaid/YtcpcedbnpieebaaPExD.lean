/- Plain laws of the exact package: one digit of a quotient. No condition. -/
import Derived.Test.YtcpcedbnpieebaaPExT
namespace Go.KB
set_option linter.unusedVariables false

/- Knuth's estimate -/
theorem est_ge {top u2 ul vt v2 vl P q : Nat} (hul : ul < P) (hq : q * ((vt * 65536 + v2) * P + vl) ≤ (top * 65536 + u2) * P + ul) (hu2 : u2 < 65536) : q * vt ≤ top := by
  rcases Nat.lt_or_ge top (q * vt) with h | h
  · exfalso
    have h1 : (top + 1) * (65536 * P) ≤ (q * vt) * (65536 * P) := Nat.mul_le_mul_right _ h
    have h2 : u2 * P + P ≤ 65536 * P := by rw [← Nat.succ_mul]; exact Nat.mul_le_mul_right _ hu2
    have e1 : q * ((vt * 65536 + v2) * P + vl) = q * vt * (65536 * P) + q * (v2 * P + vl) := by grind
    have e2 : (top * 65536 + u2) * P + ul = top * (65536 * P) + (u2 * P + ul) := by grind
    have e3 : (top + 1) * (65536 * P) = top * (65536 * P) + 65536 * P := by grind
    omega
  · exact h
/- the test says: too great -/
theorem est_test {top u2 ul vt v2 vl P q rest : Nat} (hul : ul < P) (hr : q * vt + rest = top) (ht : rest * 65536 + u2 < q * v2) : (top * 65536 + u2) * P + ul < q * ((vt * 65536 + v2) * P + vl) := by
  have h1 : (top * 65536 + u2 + 1) * P ≤ q * (vt * 65536 + v2) * P := by
    refine Nat.mul_le_mul_right _ ?_
    have : q * (vt * 65536 + v2) = q * vt * 65536 + q * v2 := by grind
    rw [this, ← hr]; omega
  have e1 : q * ((vt * 65536 + v2) * P + vl) = q * (vt * 65536 + v2) * P + q * vl := by grind
  have e2 : (top * 65536 + u2 + 1) * P = (top * 65536 + u2) * P + P := by grind
  omega
/- the test says no more: too great by one at most -/
theorem est_le {top u2 ul vt v2 vl P q rest : Nat} (hvl : vl < P) (hr : q * vt + rest = top) (ht : q * v2 ≤ rest * 65536 + u2) (hq : q < 65536) (hvt : 1 ≤ vt) : q * ((vt * 65536 + v2) * P + vl) ≤ (top * 65536 + u2) * P + ul + ((vt * 65536 + v2) * P + vl) := by
  have h1 : q * (vt * 65536 + v2) * P ≤ (top * 65536 + u2) * P := by
    refine Nat.mul_le_mul_right _ ?_
    have : q * (vt * 65536 + v2) = q * vt * 65536 + q * v2 := by grind
    rw [this, ← hr]; omega
  have h2 : q * vl ≤ 65536 * P := Nat.mul_le_mul (by omega) (by omega)
  have h3 : 65536 * P ≤ (vt * 65536 + v2) * P := Nat.mul_le_mul_right _ (by omega)
  have e1 : q * ((vt * 65536 + v2) * P + vl) = q * (vt * 65536 + v2) * P + q * vl := by grind
  omega

theorem and64i {k : Nat} (h : k < 18446744073709551616) : bitI .and .u64 (k : Int) 65535 = ((k % 65536 : Nat) : Int) := by
  unfold bitI
  simp only []
  have e : (BitVec.ofInt IntKind.u64.bits (k : Int) &&& BitVec.ofInt IntKind.u64.bits (65535 : Int)).toNat = k % 65536 := by
    rw [BitVec.ofInt_natCast, BitVec.toNat_and, BitVec.toNat_ofNat]
    show k % 2 ^ 64 &&& 65535 = _
    rw [Nat.mod_eq_of_lt (by omega)]
    exact Nat.and_two_pow_sub_one_eq_mod k 16
  rw [e, u64n (by omega)]
theorem quo64 {a b : Nat} (hb : b ≠ 0) (ha : a < 18446744073709551616) : quoI .u64 (a : Int) (b : Int) = some ((a / b : Nat) : Int) := by
  unfold quoI
  have := Nat.div_le_self a b
  rw [if_neg (by omega), ← Int.ofNat_tdiv, u64n (by omega)]

/- the estimate is made better -/
theorem digit_est {N n top u2 vt v2 : Nat} {u v : List Int} {P ul vl : Nat} (hu : Dig u) (hv : Dig v) (hn : 2 ≤ n) (hvl : v.length = n) (hul : u.length = n + 1) (hn' : n ≤ 1000000) (e2 : ldg u (n - 2) = u2) (f2 : ldg v (n - 2) = v2) (ft : ldg v (n - 1) = vt)
    (hvt : 32768 ≤ vt) (hP : ul < P) (hQ : vl < P) {Q : Nat} (hQ1 : Q < 65536) (hQ2 : Q * ((vt * 65536 + v2) * P + vl) ≤ (top * 65536 + u2) * P + ul) (htop : top < vt * 65536 + 65536) (hN : 2 ^ 64 ≤ N) :
    ∃ o, loopN (f_exact_digit_L3 N u v) N (((top / vt : Nat) : Int), ((top % vt : Nat) : Int)) = some o ∧ ∃ q : Nat, o = q ∧ q < 65536 ∧ Q ≤ q ∧ q * ((vt * 65536 + v2) * P + vl) ≤ (top * 65536 + u2) * P + ul + ((vt * 65536 + v2) * P + vl) := by
  have hu2 := ldg_lt hu (n - 2)
  have hv2 := ldg_lt hv (n - 2)
  have hvt2 := ldg_lt hv (n - 1)
  rw [e2] at hu2; rw [f2] at hv2; rw [ft] at hvt2
  have hq0 : top / vt < 131073 := by rw [Nat.div_lt_iff_lt_mul (by omega)]; omega
  refine loopN_of (fun s => ∃ q r : Nat, s = ((q : Int), (r : Int)) ∧ q * vt + r = top ∧ Q ≤ q ∧ q < 131073) (fun s => 65536 - s.2.toNat) _ ?_ N _ ⟨top / vt, top % vt, rfl, by rw [Nat.mul_comm]; exact Nat.div_add_mod top vt, ?_, hq0⟩ (by simp only []; omega)
  · rintro s ⟨q, r, rfl, hr, hQq, hqb⟩
    unfold f_exact_digit_L3
    have hn2 : IntKind.i64.wrap ((List.length v : Int) - 2) = ((n - 2 : Nat) : Int) := by rw [hvl, w64i (by omega) (by omega)]; omega
    have hn1 : IntKind.i64.wrap ((List.length v : Int) - 1) = ((n - 1 : Nat) : Int) := by rw [hvl, w64i (by omega) (by omega)]; omega
    have i1 : idx v ((n - 2 : Nat) : Int) = some ((v2 : Nat) : Int) := by rw [idx_dg hv (by omega), f2]
    have i2 : idx u ((n - 2 : Nat) : Int) = some ((u2 : Nat) : Int) := by rw [idx_dg hu (by omega), e2]
    have i3 : idx v ((n - 1 : Nat) : Int) = some ((vt : Nat) : Int) := by rw [idx_dg hv (by omega), ft]
    have hqr : q < 65536 ∨ r < 65536 := by
      rcases Nat.lt_or_ge q 65536 with h | h
      · exact .inl h
      · right
        have : 65536 * vt ≤ q * vt := Nat.mul_le_mul_right _ h
        omega
    by_cases hr1 : r < 65536
    · by_cases hq1 : 65535 < q
      · refine .inl ⟨(((q - 1 : Nat) : Int), ((r + vt : Nat) : Int)), ?_, ⟨q - 1, r + vt, rfl, ?_, by omega, by omega⟩, by simp only []; omega⟩
        · simp (disch := omega) only [cmp_lss, cmp_gtr, dT, Bool.not_true, Bool.and_false, Bool.true_or, cond_true, cond_false, Option.bind_some, hn1, i3, u64i, Bool.and_true]
          rw [show (q : Int) - 1 = ((q - 1 : Nat) : Int) by omega]; rfl
        · have : q * vt = (q - 1) * vt + vt := by rw [← Nat.succ_mul]; congr 1; omega
          omega
      · have hqv := dig_mul_lt (show q < 65536 by omega) hv2
        have hw : IntKind.u64.wrap ((q : Int) * IntKind.u64.wrap ((v2 : Nat) : Int)) = ((q * v2 : Nat) : Int) := by rw [u64i (n := ((v2 : Nat) : Int)) (by omega) (by omega), ← Int.natCast_mul, u64i (by omega) (by omega)]
        have hsh : shlI .u64 (r : Int) 16 = some ((65536 * r : Nat) : Int) := shl16_64 (by omega)
        have hor : bitI .or .u64 ((65536 * r : Nat) : Int) (IntKind.u64.wrap ((u2 : Nat) : Int)) = ((65536 * r + u2 : Nat) : Int) := by rw [u64i (n := ((u2 : Nat) : Int)) (by omega) (by omega), or64 hu2 (by omega)]
        simp (disch := omega) only [cmp_lss, cmp_gtr, dT (p := (r : Int) < 65536), dF (p := 65535 < (q : Int)), Bool.not_false, Bool.and_true, cond_true, hn2, i1, i2, Option.bind_some, hsh, hw, hor, Bool.false_or, Bool.true_and]
        by_cases ht : 65536 * r + u2 < q * v2
        · have hbig := est_test (vl := vl) (u2 := u2) (v2 := v2) hP hr (by omega)
          have hQlt : Q < q := by
            rcases Nat.lt_or_ge Q q with h | h
            · exact h
            · have := Nat.mul_le_mul_right ((vt * 65536 + v2) * P + vl) h
              omega
          refine .inl ⟨(((q - 1 : Nat) : Int), ((r + vt : Nat) : Int)), ?_, ⟨q - 1, r + vt, rfl, ?_, by omega, by omega⟩, by simp only []; omega⟩
          · simp (disch := omega) only [dT, cond_true, Option.bind_some, hn1, i3, u64i]
            rw [show (q : Int) - 1 = ((q - 1 : Nat) : Int) by omega]; rfl
          · have : q * vt = (q - 1) * vt + vt := by rw [← Nat.succ_mul]; congr 1; omega
            omega
        · refine .inr ⟨(q : Int), ?_, q, rfl, by omega, hQq, est_le hQ hr (show q * v2 ≤ r * 65536 + u2 by omega) (by omega) (by omega)⟩
          simp (disch := omega) only [dF, cond_false]
    · have hq2 : q < 65536 := by omega
      have hqv2 := dig_mul_lt hq2 hv2
      refine .inr ⟨(q : Int), ?_, q, rfl, hq2, hQq, est_le hQ hr (show q * v2 ≤ r * 65536 + u2 by omega) hq2 (by omega)⟩
      simp (disch := omega) only [cmp_lss, dF, Bool.false_and, cond_false, Option.bind_some]
  · rw [Nat.le_div_iff_mul_le (by omega)]
    exact est_ge hP hQ2 hu2

/- q times v is subtracted -/
theorem digit_sub {N q : Nat} {u v : List Int} (hu : Dig u) (hv : Dig v) (hul : u.length = v.length + 1) (hn' : v.length ≤ 1000000) (hq : q < 65536) (hN : 2 ^ 64 ≤ N) :
    ∃ o, loopN (f_exact_digit_L2 N v (q : Int)) N (u, 0, 0, 0) = some o ∧ Dig o.1 ∧ o.1.length = u.length ∧ ∃ b : Nat, b < 2 ∧ o.2 = -(b : Int) ∧ val o.1 + q * val v = val u + 65536 ^ (v.length + 1) * b := by
  obtain ⟨o, ho, hd, hlen, b, hb, hob, c, hc, hv', hc0⟩ := loopN_of (f := f_exact_digit_L2 N v (q : Int)) (fun s => ∃ i c b : Nat, i ≤ v.length + 1 ∧ c < 65536 ∧ b < 2 ∧ s.2 = ((c : Int), -(b : Int), (i : Int)) ∧ Dig s.1 ∧ s.1.length = u.length ∧ s.1.drop i = u.drop i ∧ val (s.1.take i) + q * val (v.take i) = val (u.take i) + 65536 ^ i * c + 65536 ^ i * b ∧ (i = v.length + 1 → c = 0)) (fun s => v.length + 1 - s.2.2.2.toNat)
    (fun o => Dig o.1 ∧ o.1.length = u.length ∧ ∃ b : Nat, b < 2 ∧ o.2 = -(b : Int) ∧ ∃ c : Nat, c < 65536 ∧ val o.1 + q * val v = val u + 65536 ^ (v.length + 1) * c + 65536 ^ (v.length + 1) * b ∧ c = 0) (by
    rintro ⟨x, cc, bb, ii⟩ ⟨i, c, b, hi, hc, hb, hs, hd, hlen, hdr, hval, hcz⟩
    simp only [Prod.mk.injEq] at hs hd hlen hdr hval; obtain ⟨rfl, rfl, rfl⟩ := hs
    unfold f_exact_digit_L2
    have hn1 : IntKind.i64.wrap ((List.length v : Int) + 1) = ((v.length + 1 : Nat) : Int) := by rw [w64i (by omega) (by omega)]; omega
    by_cases hlt : i < v.length + 1
    · have hxi : ldg x i = ldg u i := by
        have h1 := congrArg (fun l => ldg l 0) hdr
        simpa [ldg] using h1
      have hui := ldg_lt hu i
      have hvi := ldg_lt hv i
      have hqv := dig_mul_lt hq hvi
      have hvout : v.length ≤ i → ldg v i = 0 := fun h => ldg_out h
      have hstep : (bif decide ((i : Int) < (List.length v : Int)) then (idx v (i : Int)).bind fun v17 => some (IntKind.u64.wrap ((c : Int) + IntKind.u64.wrap ((q : Int) * IntKind.u64.wrap v17))) else some (c : Int)) = some ((c + q * ldg v i : Nat) : Int) := by
        by_cases h : i < v.length
        · have hw : IntKind.u64.wrap ((q : Int) * IntKind.u64.wrap ((ldg v i : Nat) : Int)) = ((q * ldg v i : Nat) : Int) := by rw [u64i (n := ((ldg v i : Nat) : Int)) (by omega) (by omega), ← Int.natCast_mul, u64i (by omega) (by omega)]
          simp (disch := omega) only [dT, cond_true, idx_dg hv, Option.bind_some, hw]
          rw [← Int.natCast_add, u64i (by omega) (by omega)]
        · rw [hvout (by omega)]
          simp (disch := omega) only [dF, cond_false, Nat.mul_zero, Nat.add_zero]
      generalize hX : c + q * ldg v i = X at *
      have hXb : X < 4294967296 := by omega
      have hD : -131072 < ((ldg u i : Nat) : Int) - ((X % 65536 : Nat) : Int) + -(b : Int) ∧ ((ldg u i : Nat) : Int) - ((X % 65536 : Nat) : Int) + -(b : Int) < 65536 := by omega
      refine .inl ⟨(x.set i ((((ldg u i : Nat) : Int) - ((X % 65536 : Nat) : Int) + -(b : Int)) % 65536), ((X / 65536 : Nat) : Int), (((ldg u i : Nat) : Int) - ((X % 65536 : Nat) : Int) + -(b : Int)) / 65536, ((i + 1 : Nat) : Int)), ?_,
        ⟨i + 1, X / 65536, ((-((((ldg u i : Nat) : Int) - ((X % 65536 : Nat) : Int) + -(b : Int)) / 65536)).toNat), by omega, by omega, by omega, ?_, dig_set hd (by omega) (by omega), by simp [hlen], ?_, ?_, ?_⟩, by simp; omega⟩
      · simp (disch := omega) only [cmp_lss, hn1, dT (p := (i : Int) < ((v.length + 1 : Nat) : Int)), cond_true]
        rw [hstep]
        simp (disch := omega) only [Option.bind_some, shr16i (k := .u64) (by decide), shr16i (k := .i64) (by decide), idx_dg hd, hxi, w64i, and64i, u16w, Int.toNat_natCast]
        rw [Int.natCast_ediv]
        rfl
      · simp only [Prod.mk.injEq, true_and]
        exact ⟨by omega, trivial⟩
      · rw [drop_set_lt' (by omega)]; have := congrArg (List.drop 1) hdr; simpa [List.drop_drop] using this
      · rw [val_take_succ, val_take_succ, val_take_succ, take_set_ge (Nat.le_refl i), ldg_set_same (by omega), Nat.pow_succ]
        have h2 : X % 65536 + 65536 * (X / 65536) = X := Nat.mod_add_div X 65536
        generalize hm : X % 65536 = m at *
        generalize hy : X / 65536 = y at *
        have h3 : ((((ldg u i : Nat) : Int) - (m : Int) + -(b : Int)) % 65536).toNat + m + b = ldg u i + 65536 * (-((((ldg u i : Nat) : Int) - (m : Int) + -(b : Int)) / 65536)).toNat := by omega
        generalize ((((ldg u i : Nat) : Int) - (m : Int) + -(b : Int)) % 65536).toNat = d at *
        generalize (-((((ldg u i : Nat) : Int) - (m : Int) + -(b : Int)) / 65536)).toNat = b' at *
        generalize 65536 ^ i = P at *
        have h4 : P * (d + m + b) = P * (ldg u i + 65536 * b') := by rw [h3]
        have h5 : P * (m + 65536 * y) = P * (c + q * ldg v i) := by rw [h2, hX]
        clear hstep hdr hd hu hv
        grind
      · intro h
        have : ldg v i = 0 := hvout (by omega)
        rw [this] at hX
        omega
    · obtain rfl : i = v.length + 1 := by omega
      refine .inr ⟨(x, -(b : Int)), ?_, hd, hlen, b, hb, rfl, c, hc, ?_, hcz rfl⟩
      · simp (disch := omega) only [cmp_lss, hn1, dF, cond_false]
      · rw [List.take_of_length_le (l := x) (by omega), List.take_of_length_le (l := v) (by omega), List.take_of_length_le (l := u) (by omega)] at hval; exact hval) N (u, 0, 0, 0) ⟨0, 0, 0, by omega, by omega, by omega, rfl, hu, rfl, rfl, by simp [val], by omega⟩ (by simp only []; omega)
  subst hc0
  exact ⟨o, ho, hd, hlen, b, hb, hob, by simpa using hv'⟩
/- v is added back -/
theorem digit_back {N : Nat} {u v : List Int} (hu : Dig u) (hv : Dig v) (hul : u.length = v.length + 1) (hn' : v.length ≤ 1000000) (hN : 2 ^ 64 ≤ N) :
    ∃ o, loopN (f_exact_digit_L1 N v) N (u, 0, 0) = some o ∧ Dig o.1 ∧ o.1.length = u.length ∧ ldg o.1 v.length = ldg u v.length ∧ ∃ c : Nat, c < 2 ∧ o.2 = c ∧ val (o.1.take v.length) + 65536 ^ v.length * c = val (u.take v.length) + val v := by
  obtain ⟨o, ho, hd, hlen, hdr, c, hc, hoc, hv'⟩ := loopN_of (f := f_exact_digit_L1 N v) (fun s => ∃ i c : Nat, i ≤ v.length ∧ c < 2 ∧ s.2 = ((c : Int), (i : Int)) ∧ Dig s.1 ∧ s.1.length = u.length ∧ s.1.drop i = u.drop i ∧ val (s.1.take i) + 65536 ^ i * c = val (u.take i) + val (v.take i)) (fun s => v.length - s.2.2.toNat)
    (fun o => Dig o.1 ∧ o.1.length = u.length ∧ o.1.drop v.length = u.drop v.length ∧ ∃ c : Nat, c < 2 ∧ o.2 = c ∧ val (o.1.take v.length) + 65536 ^ v.length * c = val (u.take v.length) + val v) (by
    rintro ⟨x, cc, ii⟩ ⟨i, c, hi, hc, hs, hd, hlen, hdr, hval⟩
    simp only [Prod.mk.injEq] at hs hd hlen hdr hval; obtain ⟨rfl, rfl⟩ := hs
    unfold f_exact_digit_L1
    by_cases hlt : i < v.length
    · have hxi : ldg x i = ldg u i := by
        have h1 := congrArg (fun l => ldg l 0) hdr
        simpa [ldg] using h1
      have hui := ldg_lt hu i
      have hvi := ldg_lt hv i
      refine .inl ⟨(x.set i (((c + (ldg u i + ldg v i)) % 65536 : Nat) : Int), (((c + (ldg u i + ldg v i)) / 65536 : Nat) : Int), ((i + 1 : Nat) : Int)), ?_, ⟨i + 1, (c + (ldg u i + ldg v i)) / 65536, by omega, by omega, rfl, dig_set hd (by omega) (by omega), by simp [hlen], ?_, ?_⟩, by simp; omega⟩
      · simp (disch := omega) only [cmp_lss, dT, cond_true, idx_dg hd, idx_dg hv, hxi, Option.bind_some, u32i, shr16i (k := .u32) (by decide), u16w, w64s, Int.toNat_natCast]
        have e : ((c : Int) + (((ldg u i : Nat) : Int) + ((ldg v i : Nat) : Int))) = ((c + (ldg u i + ldg v i) : Nat) : Int) := by omega
        rw [e]; rfl
      · rw [drop_set_lt' (by omega)]; have := congrArg (List.drop 1) hdr; simpa [List.drop_drop] using this
      · rw [val_take_succ, val_take_succ, val_take_succ, take_set_ge (Nat.le_refl i), ldg_set_same (by omega), Nat.pow_succ, Int.toNat_natCast]
        have h2 := Nat.mod_add_div (c + (ldg u i + ldg v i)) 65536
        generalize (c + (ldg u i + ldg v i)) % 65536 = m at *
        generalize (c + (ldg u i + ldg v i)) / 65536 = y at *
        generalize 65536 ^ i = P at *
        have h4 : P * (m + 65536 * y) = P * (c + (ldg u i + ldg v i)) := by rw [h2]
        clear hdr hd hu hv
        grind
    · obtain rfl : i = v.length := by omega
      refine .inr ⟨(x, (c : Int)), ?_, hd, hlen, hdr, c, hc, rfl, ?_⟩
      · simp (disch := omega) only [cmp_lss, dF, cond_false]
      · rw [List.take_length] at hval; exact hval) N (u, 0, 0) ⟨0, 0, by omega, by omega, rfl, hu, rfl, rfl, by simp [val]⟩ (by simp only []; omega)
  refine ⟨o, ho, hd, hlen, ?_, c, hc, hoc, hv'⟩
  have h1 := congrArg (fun l => ldg l 0) hdr
  simpa [ldg] using h1
end Go.KB
