/- Plain laws of the exact package: sums, differences and products of natural numbers. Plain laws of the exact package: products of natural numbers. Plain laws of the exact package: one digit of a quotient. Plain laws of the exact package: quotient and remainder of natural numbers. Plain laws of the exact package: quotient, remainder, greatest common divisor of natural numbers. Plain laws: integers and fractions as values; their sizes. Plain laws of the exact package: integers and fractions. No condition. -/
import Derived.Test.YthoopaegiclfaaaGreatPZa
namespace Go.KB
set_option linter.unusedVariables false
theorem jA9 {n : Int} (h0 : 0 ≤ n) (h1 : n ≤ 137438953472) : mk (0 : Int) n n = some (List.replicate n.toNat 0) := by
 unfold mk
 rw [show (decide ((0 : Int) ≤ n) && decide (n ≤ n) && decide (n ≤ (lim : Int))) = true by simp only [Bool.and_eq_true, decide_eq_true_eq]; unfold lim; omega]
 rfl
end Go.KB
namespace Go.KB
set_option linter.unusedVariables false
theorem qVg {l : List Int} {j : Nat} (h : val l < 65536 ^ j) : ldg l j = 0 := by
 have h1 := jRd l j
 have h2 := jLu l j
 rcases Nat.eq_zero_or_pos (ldg l j) with h3 | h3
 ·exact h3
 ·exfalso
  have : 65536 ^ j * 1 ≤ 65536 ^ j * val (l.drop j) := Nat.mul_le_mul_left _ (by omega)
  omega
theorem jLd {x y : Nat} (hx : x < 65536) (hy : y < 65536) : x * y ≤ 4294836225 := by
 have := Nat.mul_le_mul (show x ≤ 65535 by omega) (show y ≤ 65535 by omega)
 omega
theorem jAc {N i x : Nat} {b out0 : List Int} (hb : Dig b) (hx : x < 65536) (ho : Dig out0) (hlen : i + b.length < out0.length) (hl : out0.length ≤ 2000000) (hz : ldg out0 (i + b.length) = 0) (hN : 2 ^ 64 ≤ N) :
    ∃ o, jXf (jKn N b (out0, (i : Int)) (x : Int)) N (out0, 0, 0) = some o ∧ Dig o.1 ∧ o.1.length = out0.length ∧ ldg o.1 (i + b.length) = 0 ∧ ∃ c : Nat, c < 65536 ∧ o.2 = c ∧ val o.1 + 65536 ^ (i + b.length) * c = val out0 + 65536 ^ i * (x * val b) := by
  refine jUh (fun s => ∃ k c : Nat, k ≤ b.length ∧ c < 65536 ∧ s.2 = ((c : Int), (k : Int)) ∧ Dig s.1 ∧ s.1.length = out0.length ∧ ldg s.1 (i + b.length) = 0 ∧ val s.1 + 65536 ^ (i + k) * c = val out0 + 65536 ^ i * (x * val (b.take k))) (fun s => b.length - s.2.2.toNat) _ ?_ N _ ⟨0, 0, by omega, by omega, rfl, ho, rfl, hz, by simp [val]⟩ (by simp; omega)
  rintro ⟨out, cc, kk⟩ ⟨k, c, hk, hc, hs, hd, hlo, hz', hv⟩
  simp only [Prod.mk.injEq] at hs hd hlo hz' hv; obtain ⟨rfl, rfl⟩ := hs
  unfold jKn
  by_cases hlt : k < b.length
  · have hy := jUf hb k
    have hu := jUf hd (i + k)
    have hxy := jLd hx hy
    refine .inl ⟨(out.set (i + k) (((c + x * ldg b k + ldg out (i + k)) % 65536 : Nat) : Int), (((c + x * ldg b k + ldg out (i + k)) / 65536 : Nat) : Int), ((k + 1 : Nat) : Int)), ?_, ⟨k + 1, (c + x * ldg b k + ldg out (i + k)) / 65536, by omega, by omega, rfl, jD8 hd (by omega) (by omega), by simp [hlo], ?_, ?_⟩, by simp; omega⟩
    · have hxi : IntKind.u32.wrap ((x : Int) * ((ldg b k : Nat) : Int)) = ((x * ldg b k : Nat) : Int) := by rw [← Int.natCast_mul, u32i (by omega) (by omega)]
      have hik : IntKind.i64.wrap ((i : Int) + (k : Int)) = ((i + k : Nat) : Int) := by rw [jN3 (by omega) (by omega)]; omega
      simp (disch := omega) only [jQr, dT, cnT, jUk hb, bS, hik, jUk hd, u32i, hxi, qQ4, jCs (k := .u32) (by decide), jNh, Int.toNat_natCast]
      have e : ((c : Int) + (((x * ldg b k : Nat) : Int) + ((ldg out (i + k) : Nat) : Int))) = ((c + x * ldg b k + ldg out (i + k) : Nat) : Int) := by omega
      rw [e]; rfl
    · rw [jSb (by omega)]; exact hz'
    · have h1 := qXn (d := (((c + x * ldg b k + ldg out (i + k)) % 65536 : Nat) : Int)) (show i + k < out.length by omega)
      rw [Int.toNat_natCast] at h1
      rw [jQ8]
      have h2 := Nat.div_add_mod (c + x * ldg b k + ldg out (i + k)) 65536
      rw [show i + (k + 1) = i + k + 1 by omega, Nat.pow_succ]
      have hP : 65536 ^ (i + k) = 65536 ^ i * 65536 ^ k := Nat.pow_add _ _ _
      generalize val (out.set (i + k) (((c + x * ldg b k + ldg out (i + k)) % 65536 : Nat) : Int)) = V at *
      generalize (c + x * ldg b k + ldg out (i + k)) % 65536 = m at *
      generalize (c + x * ldg b k + ldg out (i + k)) / 65536 = q at *
      generalize 65536 ^ (i + k) = P at *
      generalize ldg out (i + k) = u at *
      generalize ldg b k = y at *
      generalize 65536 ^ k = Q at *
      generalize 65536 ^ i = R at *
      have h3 : P * (65536 * q + m) = P * (c + x * y + u) := by rw [h2]
      subst hP
      grind
  · obtain rfl : k = b.length := by omega
    refine .inr ⟨(out, (c : Int)), ?_, hd, hlo, hz', c, hc, rfl, ?_⟩
    · simp (disch := omega) only [jQr, dF, cnF]
    · rw [List.take_length] at hv; exact hv
theorem qVa {N m n : Nat} (hm : nl m ≤ 900000) (hn : nl n ≤ 900000) (hN : 2 ^ 64 ≤ N) : jGk N (limbs m) (limbs n) = some (limbs (m * n)) := by
  have ha := jZl m
  have hb := jZl n
  have hal : (limbs m).length ≤ 900000 := hm
  have hbl : (limbs n).length ≤ 900000 := hn
  have hvm := jV8 m
  have hvn := jV8 n
  generalize limbs m = a at *
  generalize limbs n = b at *
  unfold jGk
  rw [jN3 (by omega) (by omega), jA9 (by omega) (by omega), bS, show ((a.length : Int) + (b.length : Int)).toNat = a.length + b.length by omega]
  obtain ⟨o, ho, hd, hlen, hv⟩ := jUh (f := jKm N a b) (fun s => ∃ i : Nat, i ≤ a.length ∧ s.2 = (i : Int) ∧ Dig s.1 ∧ s.1.length = a.length + b.length ∧ val s.1 = val (a.take i) * val b) (fun s => a.length - s.2.toNat)
    (fun o => Dig o ∧ o.length = a.length + b.length ∧ val o = val a * val b) (by
    rintro ⟨out, ii⟩ ⟨i, hi, hs, hd, hlen, hv⟩
    simp only at hs hd hlen hv; subst hs
    unfold jKm
    by_cases hlt : i < a.length
    · have hx := jUf ha i
      have hbd : ∀ j, val (a.take j) * val b < 65536 ^ (j + b.length) := fun j => by
        have h1 := jGf (jU9 ha j)
        have h2 : 65536 ^ (a.take j).length ≤ 65536 ^ j := Nat.pow_le_pow_right (by decide) (by rw [List.length_take]; omega)
        rw [Nat.pow_add]
        exact Nat.mul_lt_mul'' (by omega) (jGf hb)
      obtain ⟨o, ho, hd', hlen', hz, c, hc, hoc, hv'⟩ := jAc (N := N) (i := i) (x := ldg a i) hb hx hd (by omega) (by omega) (qVg (by rw [hv]; exact hbd i)) hN
      refine .inl ⟨(o.1.set (i + b.length) (c : Int), ((i + 1 : Nat) : Int)), ?_, ⟨i + 1, by omega, rfl, jD8 hd' (by omega) (by omega), by simp only [List.length_set]; omega, ?_⟩, by simp; omega⟩
      · have hik : IntKind.i64.wrap ((i : Int) + (b.length : Int)) = ((i + b.length : Nat) : Int) := by rw [jN3 (by omega) (by omega)]; omega
        simp (disch := omega) only [jQr, dT, cnT, jUk ha, bS, ho, hik, jUk hd', hoc, qQ4, jNh, Int.toNat_natCast]
        rw [show (c : Int) % 65536 = c by omega]
      · have h1 := qXn (d := (c : Int)) (show i + b.length < o.1.length by omega)
        rw [hz, Int.toNat_natCast] at h1
        simp only [jQ8]
        grind
    · obtain rfl : i = a.length := by omega
      refine .inr ⟨out, ?_, hd, hlen, ?_⟩
      · simp (disch := omega) only [jQr, dF, cnF]
      · rw [List.take_length] at hv; exact hv) N (List.replicate (a.length + b.length) 0, 0) ⟨0, by omega, rfl, jTh _, by simp, by simp [val, qYz]⟩ (by simp; omega)
  rw [ho, bS, jS3 hd (n := m * n) (by rw [hv, hvm, hvn]) (by omega) (by omega)]
  rfl
end Go.KB
namespace Go.KB
set_option linter.unusedVariables false
theorem est_ge {top u2 ul vt v2 vl P q : Nat} (hul : ul < P) (hq : q * ((vt * 65536 + v2) * P + vl) ≤ (top * 65536 + u2) * P + ul) (hu2 : u2 < 65536) : q * vt ≤ top := by
 rcases Nat.lt_or_ge top (q * vt) with h | h
 ·exfalso
  have h1 : (top + 1) * (65536 * P) ≤ (q * vt) * (65536 * P) := Nat.mul_le_mul_right _ h
  have h2 : u2 * P + P ≤ 65536 * P := by rw [← Nat.succ_mul]; exact Nat.mul_le_mul_right _ hu2
  have e1 : q * ((vt * 65536 + v2) * P + vl) = q * vt * (65536 * P) + q * (v2 * P + vl) := by grind
  have e2 : (top * 65536 + u2) * P + ul = top * (65536 * P) + (u2 * P + ul) := by grind
  have e3 : (top + 1) * (65536 * P) = top * (65536 * P) + 65536 * P := by grind
  omega
 ·exact h
theorem qV5 {top u2 ul vt v2 vl P q rest : Nat} (hul : ul < P) (hr : q * vt + rest = top) (ht : rest * 65536 + u2 < q * v2) : (top * 65536 + u2) * P + ul < q * ((vt * 65536 + v2) * P + vl) := by
 have h1 : (top * 65536 + u2 + 1) * P ≤ q * (vt * 65536 + v2) * P := by
  refine Nat.mul_le_mul_right _ ?_
  have : q * (vt * 65536 + v2) = q * vt * 65536 + q * v2 := by grind
  rw [this, ← hr]; omega
 have e1 : q * ((vt * 65536 + v2) * P + vl) = q * (vt * 65536 + v2) * P + q * vl := by grind
 have e2 : (top * 65536 + u2 + 1) * P = (top * 65536 + u2) * P + P := by grind
 omega
theorem qWp {top u2 ul vt v2 vl P q rest : Nat} (hvl : vl < P) (hr : q * vt + rest = top) (ht : q * v2 ≤ rest * 65536 + u2) (hq : q < 65536) (hvt : 1 ≤ vt) : q * ((vt * 65536 + v2) * P + vl) ≤ (top * 65536 + u2) * P + ul + ((vt * 65536 + v2) * P + vl) := by
 have h1 : q * (vt * 65536 + v2) * P ≤ (top * 65536 + u2) * P := by
  refine Nat.mul_le_mul_right _ ?_
  have : q * (vt * 65536 + v2) = q * vt * 65536 + q * v2 := by grind
  rw [this, ← hr]; omega
 have h2 : q * vl ≤ 65536 * P := Nat.mul_le_mul (by omega) (by omega)
 have h3 : 65536 * P ≤ (vt * 65536 + v2) * P := Nat.mul_le_mul_right _ (by omega)
 have e1 : q * ((vt * 65536 + v2) * P + vl) = q * (vt * 65536 + v2) * P + q * vl := by grind
 omega
theorem and64i {k : Nat} (h : k < 18446744073709551616) : jKd .and .u64 (k : Int) 65535 = ((k % 65536 : Nat) : Int) := by
 unfold jKd
 simp only []
 have e : (BitVec.ofInt IntKind.u64.bits (k : Int) &&& BitVec.ofInt IntKind.u64.bits (65535 : Int)).toNat = k % 65536 := by
  rw [BitVec.ofInt_natCast, BitVec.toNat_and, BitVec.toNat_ofNat]
  show k % 2 ^ 64 &&& 65535 = _
  rw [Nat.mod_eq_of_lt (by omega)]
  exact Nat.and_two_pow_sub_one_eq_mod k 16
 rw [e, u64n (by omega)]
theorem quo64 {a b : Nat} (hb : b ≠ 0) (ha : a < 18446744073709551616) : qVj .u64 (a : Int) (b : Int) = some ((a / b : Nat) : Int) := by
 unfold qVj
 have := Nat.div_le_self a b
 rw [if_neg (by omega), ← Int.ofNat_tdiv, u64n (by omega)]
theorem qXv {N n top u2 vt v2 : Nat} {u v : List Int} {P ul vl : Nat} (hu : Dig u) (hv : Dig v) (hn : 2 ≤ n) (hvl : v.length = n) (hul : u.length = n + 1) (hn' : n ≤ 1000000) (e2 : ldg u (n - 2) = u2) (f2 : ldg v (n - 2) = v2) (ft : ldg v (n - 1) = vt)
    (hvt : 32768 ≤ vt) (hP : ul < P) (hQ : vl < P) {Q : Nat} (hQ1 : Q < 65536) (hQ2 : Q * ((vt * 65536 + v2) * P + vl) ≤ (top * 65536 + u2) * P + ul) (htop : top < vt * 65536 + 65536) (hN : 2 ^ 64 ≤ N) :
    ∃ o, jXf (jW9 N u v) N (((top / vt : Nat) : Int), ((top % vt : Nat) : Int)) = some o ∧ ∃ q : Nat, o = q ∧ q < 65536 ∧ Q ≤ q ∧ q * ((vt * 65536 + v2) * P + vl) ≤ (top * 65536 + u2) * P + ul + ((vt * 65536 + v2) * P + vl) := by
  have hu2 := jUf hu (n - 2)
  have hv2 := jUf hv (n - 2)
  have hvt2 := jUf hv (n - 1)
  rw [e2] at hu2; rw [f2] at hv2; rw [ft] at hvt2
  have hq0 : top / vt < 131073 := by rw [Nat.div_lt_iff_lt_mul (by omega)]; omega
  refine jUh (fun s => ∃ q r : Nat, s = ((q : Int), (r : Int)) ∧ q * vt + r = top ∧ Q ≤ q ∧ q < 131073) (fun s => 65536 - s.2.toNat) _ ?_ N _ ⟨top / vt, top % vt, rfl, by rw [Nat.mul_comm]; exact Nat.div_add_mod top vt, ?_, hq0⟩ (by simp only []; omega)
  · rintro s ⟨q, r, rfl, hr, hQq, hqb⟩
    unfold jW9
    have hn2 : IntKind.i64.wrap ((List.length v : Int) - 2) = ((n - 2 : Nat) : Int) := by rw [hvl, jN3 (by omega) (by omega)]; omega
    have hn1 : IntKind.i64.wrap ((List.length v : Int) - 1) = ((n - 1 : Nat) : Int) := by rw [hvl, jN3 (by omega) (by omega)]; omega
    have i1 : idx v ((n - 2 : Nat) : Int) = some ((v2 : Nat) : Int) := by rw [jUk hv (by omega), f2]
    have i2 : idx u ((n - 2 : Nat) : Int) = some ((u2 : Nat) : Int) := by rw [jUk hu (by omega), e2]
    have i3 : idx v ((n - 1 : Nat) : Int) = some ((vt : Nat) : Int) := by rw [jUk hv (by omega), ft]
    have hqr : q < 65536 ∨ r < 65536 := by
      rcases Nat.lt_or_ge q 65536 with h | h
      · exact .inl h
      · right
        have : 65536 * vt ≤ q * vt := Nat.mul_le_mul_right _ h
        omega
    by_cases hr1 : r < 65536
    · by_cases hq1 : 65535 < q
      · refine .inl ⟨(((q - 1 : Nat) : Int), ((r + vt : Nat) : Int)), ?_, ⟨q - 1, r + vt, rfl, ?_, by omega, by omega⟩, by simp only []; omega⟩
        · simp (disch := omega) only [jQr, jUr, dT, Bool.not_true, Bool.and_false, Bool.true_or, cnT, cnF, bS, hn1, i3, qZ8, Bool.and_true]
          rw [show (q : Int) - 1 = ((q - 1 : Nat) : Int) by omega]; rfl
        · have : q * vt = (q - 1) * vt + vt := by rw [← Nat.succ_mul]; congr 1; omega
          omega
      · have hqv := jLd (show q < 65536 by omega) hv2
        have hw : IntKind.u64.wrap ((q : Int) * IntKind.u64.wrap ((v2 : Nat) : Int)) = ((q * v2 : Nat) : Int) := by rw [qZ8 (n := ((v2 : Nat) : Int)) (by omega) (by omega), ← Int.natCast_mul, qZ8 (by omega) (by omega)]
        have hsh : jSy .u64 (r : Int) 16 = some ((65536 * r : Nat) : Int) := jTg (by omega)
        have hor : jKd .or .u64 ((65536 * r : Nat) : Int) (IntKind.u64.wrap ((u2 : Nat) : Int)) = ((65536 * r + u2 : Nat) : Int) := by rw [qZ8 (n := ((u2 : Nat) : Int)) (by omega) (by omega), or64 hu2 (by omega)]
        simp (disch := omega) only [jQr, jUr, dT (p := (r : Int) < 65536), dF (p := 65535 < (q : Int)), Bool.not_false, Bool.and_true, cnT, hn2, i1, i2, bS, hsh, hw, hor, Bool.false_or, Bool.true_and]
        by_cases ht : 65536 * r + u2 < q * v2
        · have hbig := qV5 (vl := vl) (u2 := u2) (v2 := v2) hP hr (by omega)
          have hQlt : Q < q := by
            rcases Nat.lt_or_ge Q q with h | h
            · exact h
            · have := Nat.mul_le_mul_right ((vt * 65536 + v2) * P + vl) h
              omega
          refine .inl ⟨(((q - 1 : Nat) : Int), ((r + vt : Nat) : Int)), ?_, ⟨q - 1, r + vt, rfl, ?_, by omega, by omega⟩, by simp only []; omega⟩
          · simp (disch := omega) only [dT, cnT, bS, hn1, i3, qZ8]
            rw [show (q : Int) - 1 = ((q - 1 : Nat) : Int) by omega]; rfl
          · have : q * vt = (q - 1) * vt + vt := by rw [← Nat.succ_mul]; congr 1; omega
            omega
        · refine .inr ⟨(q : Int), ?_, q, rfl, by omega, hQq, qWp hQ hr (show q * v2 ≤ r * 65536 + u2 by omega) (by omega) (by omega)⟩
          simp (disch := omega) only [dF, cnF]
    · have hq2 : q < 65536 := by omega
      have hqv2 := jLd hq2 hv2
      refine .inr ⟨(q : Int), ?_, q, rfl, hq2, hQq, qWp hQ hr (show q * v2 ≤ r * 65536 + u2 by omega) hq2 (by omega)⟩
      simp (disch := omega) only [jQr, dF, Bool.false_and, cnF, bS]
  · rw [Nat.le_div_iff_mul_le (by omega)]
    exact est_ge hP hQ2 hu2

theorem qX8 {N q : Nat} {u v : List Int} (hu : Dig u) (hv : Dig v) (hul : u.length = v.length + 1) (hn' : v.length ≤ 1000000) (hq : q < 65536) (hN : 2 ^ 64 ≤ N) :
    ∃ o, jXf (jWy N v (q : Int)) N (u, 0, 0, 0) = some o ∧ Dig o.1 ∧ o.1.length = u.length ∧ ∃ b : Nat, b < 2 ∧ o.2 = -(b : Int) ∧ val o.1 + q * val v = val u + 65536 ^ (v.length + 1) * b := by
  obtain ⟨o, ho, hd, hlen, b, hb, hob, c, hc, hv', hc0⟩ := jUh (f := jWy N v (q : Int)) (fun s => ∃ i c b : Nat, i ≤ v.length + 1 ∧ c < 65536 ∧ b < 2 ∧ s.2 = ((c : Int), -(b : Int), (i : Int)) ∧ Dig s.1 ∧ s.1.length = u.length ∧ s.1.drop i = u.drop i ∧ val (s.1.take i) + q * val (v.take i) = val (u.take i) + 65536 ^ i * c + 65536 ^ i * b ∧ (i = v.length + 1 → c = 0)) (fun s => v.length + 1 - s.2.2.2.toNat)
    (fun o => Dig o.1 ∧ o.1.length = u.length ∧ ∃ b : Nat, b < 2 ∧ o.2 = -(b : Int) ∧ ∃ c : Nat, c < 65536 ∧ val o.1 + q * val v = val u + 65536 ^ (v.length + 1) * c + 65536 ^ (v.length + 1) * b ∧ c = 0) (by
    rintro ⟨x, cc, bb, ii⟩ ⟨i, c, b, hi, hc, hb, hs, hd, hlen, hdr, hval, hcz⟩
    simp only [Prod.mk.injEq] at hs hd hlen hdr hval; obtain ⟨rfl, rfl, rfl⟩ := hs
    unfold jWy
    have hn1 : IntKind.i64.wrap ((List.length v : Int) + 1) = ((v.length + 1 : Nat) : Int) := by rw [jN3 (by omega) (by omega)]; omega
    by_cases hlt : i < v.length + 1
    · have hxi : ldg x i = ldg u i := by
        have h1 := congrArg (fun l => ldg l 0) hdr
        simpa [ldg] using h1
      have hui := jUf hu i
      have hvi := jUf hv i
      have hqv := jLd hq hvi
      have hvout : v.length ≤ i → ldg v i = 0 := fun h => jRp h
      have hstep : (bif decide ((i : Int) < (List.length v : Int)) then (idx v (i : Int)).bind fun v17 => some (IntKind.u64.wrap ((c : Int) + IntKind.u64.wrap ((q : Int) * IntKind.u64.wrap v17))) else some (c : Int)) = some ((c + q * ldg v i : Nat) : Int) := by
        by_cases h : i < v.length
        · have hw : IntKind.u64.wrap ((q : Int) * IntKind.u64.wrap ((ldg v i : Nat) : Int)) = ((q * ldg v i : Nat) : Int) := by rw [qZ8 (n := ((ldg v i : Nat) : Int)) (by omega) (by omega), ← Int.natCast_mul, qZ8 (by omega) (by omega)]
          simp (disch := omega) only [dT, cnT, jUk hv, bS, hw]
          rw [← Int.natCast_add, qZ8 (by omega) (by omega)]
        · rw [hvout (by omega)]
          simp (disch := omega) only [dF, cnF, Nat.mul_zero, Nat.add_zero]
      generalize hX : c + q * ldg v i = X at *
      have hXb : X < 4294967296 := by omega
      have hD : -131072 < ((ldg u i : Nat) : Int) - ((X % 65536 : Nat) : Int) + -(b : Int) ∧ ((ldg u i : Nat) : Int) - ((X % 65536 : Nat) : Int) + -(b : Int) < 65536 := by omega
      refine .inl ⟨(x.set i ((((ldg u i : Nat) : Int) - ((X % 65536 : Nat) : Int) + -(b : Int)) % 65536), ((X / 65536 : Nat) : Int), (((ldg u i : Nat) : Int) - ((X % 65536 : Nat) : Int) + -(b : Int)) / 65536, ((i + 1 : Nat) : Int)), ?_,
        ⟨i + 1, X / 65536, ((-((((ldg u i : Nat) : Int) - ((X % 65536 : Nat) : Int) + -(b : Int)) / 65536)).toNat), by omega, by omega, by omega, ?_, jD8 hd (by omega) (by omega), by simp [hlen], ?_, ?_, ?_⟩, by simp; omega⟩
      · simp (disch := omega) only [jQr, hn1, dT (p := (i : Int) < ((v.length + 1 : Nat) : Int)), cnT]
        rw [hstep]
        simp (disch := omega) only [bS, jCs (k := .u64) (by decide), jCs (k := .i64) (by decide), jUk hd, hxi, jN3, and64i, qQ4, Int.toNat_natCast]
        rw [Int.natCast_ediv]
        rfl
      · simp only [Prod.mk.injEq, true_and]
        exact ⟨by omega, trivial⟩
      · rw [jFp (by omega)]; have := congrArg (List.drop 1) hdr; simpa [List.drop_drop] using this
      · rw [jQ8, jQ8, jQ8, jG7 (Nat.le_refl i), jY9 (by omega), Nat.pow_succ]
        have h2 : X % 65536 + 65536 * (X / 65536) = X := Nat.mod_add_div X 65536
        generalize hm : X % 65536 = m at *
        generalize hy : X / 65536 = y at *
        have h3 : ((((ldg u i : Nat) : Int) - (m : Int) + -(b : Int)) % 65536).toNat + m + b = ldg u i + 65536 * (-((((ldg u i : Nat) : Int) - (m : Int) + -(b : Int)) / 65536)).toNat := by omega
        generalize ((((ldg u i : Nat) : Int) - (m : Int) + -(b : Int)) % 65536).toNat = d at *
        generalize (-((((ldg u i : Nat) : Int) - (m : Int) + -(b : Int)) / 65536)).toNat = b' at *
        generalize 65536 ^ i = P at *
        have h4 : P * (d + m + b) = P * (ldg u i + 65536 * b') := by rw [h3]
        have h5 : P * (m + 65536 * y) = P * (c + q * ldg v i) := by rw [h2, hX]
        clear hstep hdr hd hu hv
        grind
      · intro h
        have : ldg v i = 0 := hvout (by omega)
        rw [this] at hX
        omega
    · obtain rfl : i = v.length + 1 := by omega
      refine .inr ⟨(x, -(b : Int)), ?_, hd, hlen, b, hb, rfl, c, hc, ?_, hcz rfl⟩
      · simp (disch := omega) only [jQr, hn1, dF, cnF]
      · rw [List.take_of_length_le (l := x) (by omega), List.take_of_length_le (l := v) (by omega), List.take_of_length_le (l := u) (by omega)] at hval; exact hval) N (u, 0, 0, 0) ⟨0, 0, 0, by omega, by omega, by omega, rfl, hu, rfl, rfl, by simp [val], by omega⟩ (by simp only []; omega)
  subst hc0
  exact ⟨o, ho, hd, hlen, b, hb, hob, by simpa using hv'⟩
theorem qJ3 {N : Nat} {u v : List Int} (hu : Dig u) (hv : Dig v) (hul : u.length = v.length + 1) (hn' : v.length ≤ 1000000) (hN : 2 ^ 64 ≤ N) :
    ∃ o, jXf (jWw N v) N (u, 0, 0) = some o ∧ Dig o.1 ∧ o.1.length = u.length ∧ ldg o.1 v.length = ldg u v.length ∧ ∃ c : Nat, c < 2 ∧ o.2 = c ∧ val (o.1.take v.length) + 65536 ^ v.length * c = val (u.take v.length) + val v := by
  obtain ⟨o, ho, hd, hlen, hdr, c, hc, hoc, hv'⟩ := jUh (f := jWw N v) (fun s => ∃ i c : Nat, i ≤ v.length ∧ c < 2 ∧ s.2 = ((c : Int), (i : Int)) ∧ Dig s.1 ∧ s.1.length = u.length ∧ s.1.drop i = u.drop i ∧ val (s.1.take i) + 65536 ^ i * c = val (u.take i) + val (v.take i)) (fun s => v.length - s.2.2.toNat)
    (fun o => Dig o.1 ∧ o.1.length = u.length ∧ o.1.drop v.length = u.drop v.length ∧ ∃ c : Nat, c < 2 ∧ o.2 = c ∧ val (o.1.take v.length) + 65536 ^ v.length * c = val (u.take v.length) + val v) (by
    rintro ⟨x, cc, ii⟩ ⟨i, c, hi, hc, hs, hd, hlen, hdr, hval⟩
    simp only [Prod.mk.injEq] at hs hd hlen hdr hval; obtain ⟨rfl, rfl⟩ := hs
    unfold jWw
    by_cases hlt : i < v.length
    · have hxi : ldg x i = ldg u i := by
        have h1 := congrArg (fun l => ldg l 0) hdr
        simpa [ldg] using h1
      have hui := jUf hu i
      have hvi := jUf hv i
      refine .inl ⟨(x.set i (((c + (ldg u i + ldg v i)) % 65536 : Nat) : Int), (((c + (ldg u i + ldg v i)) / 65536 : Nat) : Int), ((i + 1 : Nat) : Int)), ?_, ⟨i + 1, (c + (ldg u i + ldg v i)) / 65536, by omega, by omega, rfl, jD8 hd (by omega) (by omega), by simp [hlen], ?_, ?_⟩, by simp; omega⟩
      · simp (disch := omega) only [jQr, dT, cnT, jUk hd, jUk hv, hxi, bS, u32i, jCs (k := .u32) (by decide), qQ4, jNh, Int.toNat_natCast]
        have e : ((c : Int) + (((ldg u i : Nat) : Int) + ((ldg v i : Nat) : Int))) = ((c + (ldg u i + ldg v i) : Nat) : Int) := by omega
        rw [e]; rfl
      · rw [jFp (by omega)]; have := congrArg (List.drop 1) hdr; simpa [List.drop_drop] using this
      · rw [jQ8, jQ8, jQ8, jG7 (Nat.le_refl i), jY9 (by omega), Nat.pow_succ, Int.toNat_natCast]
        have h2 := Nat.mod_add_div (c + (ldg u i + ldg v i)) 65536
        generalize (c + (ldg u i + ldg v i)) % 65536 = m at *
        generalize (c + (ldg u i + ldg v i)) / 65536 = y at *
        generalize 65536 ^ i = P at *
        have h4 : P * (m + 65536 * y) = P * (c + (ldg u i + ldg v i)) := by rw [h2]
        clear hdr hd hu hv
        grind
    · obtain rfl : i = v.length := by omega
      refine .inr ⟨(x, (c : Int)), ?_, hd, hlen, hdr, c, hc, rfl, ?_⟩
      · simp (disch := omega) only [jQr, dF, cnF]
      · rw [List.take_length] at hval; exact hval) N (u, 0, 0) ⟨0, 0, by omega, by omega, rfl, hu, rfl, rfl, by simp [val]⟩ (by simp only []; omega)
  refine ⟨o, ho, hd, hlen, ?_, c, hc, hoc, hv'⟩
  have h1 := congrArg (fun l => ldg l 0) hdr
  simpa [ldg] using h1
end Go.KB
namespace Go.KB
set_option linter.unusedVariables false
theorem digit_eq {N : Nat} {u v : List Int} (hu : Dig u) (hv : Dig v) (hn : 2 ≤ v.length) (hul : u.length = v.length + 1) (hn' : v.length ≤ 1000000) (ht : 32768 ≤ ldg v (v.length - 1)) (hlt : val u < 65536 * val v) (hN : 2 ^ 64 ≤ N) :
    ∃ x, jK8 N u v = some (x, ((val u / val v : Nat) : Int)) ∧ Dig x ∧ x.length = u.length ∧ val x = val u % val v := by
  have hV0 : 0 < val v := by
    rcases Nat.eq_zero_or_pos (val v) with h | h
    · rw [h] at hlt; omega
    · exact h
  have hQ : val u / val v < 65536 := by rw [Nat.div_lt_iff_lt_mul hV0]; exact hlt
  have hQ2 : val u / val v * val v ≤ val u := Nat.div_mul_le_self _ _
  generalize hn0 : v.length = n at *
  obtain ⟨n, rfl⟩ : ∃ m, n = m + 2 := ⟨n - 2, by omega⟩
  have hvt := jUf hv (n + 1)
  have hv2 := jUf hv n
  have hun := jUf hu (n + 2)
  have hu1 := jUf hu (n + 1)
  have hu2 := jUf hu n
  have hP : val (u.take n) < 65536 ^ n := by have := jGf (jU9 hu n); rwa [List.length_take, Nat.min_eq_left (by omega)] at this
  have hQl : val (v.take n) < 65536 ^ n := by have := jGf (jU9 hv n); rwa [List.length_take, Nat.min_eq_left (by omega)] at this
  have ev : val v = (ldg v (n + 1) * 65536 + ldg v n) * 65536 ^ n + val (v.take n) := by
    have h1 := jQ8 v (n + 1)
    have h2 := jQ8 v n
    rw [List.take_of_length_le (by omega)] at h1
    rw [h1, h2, Nat.pow_succ]; grind
  have eu : val u = ((ldg u (n + 2) * 65536 + ldg u (n + 1)) * 65536 + ldg u n) * 65536 ^ n + val (u.take n) := by
    have h0 := jQ8 u (n + 2)
    have h1 := jQ8 u (n + 1)
    have h2 := jQ8 u n
    rw [List.take_of_length_le (by omega)] at h0
    rw [h0, h1, h2, Nat.pow_succ, Nat.pow_succ]; grind
  have hQ3 := hQ2
  have hlt3 := hlt
  generalize hQv : val u / val v = Q at *
  generalize hPP : 65536 ^ n = P at *
  have htop : ldg u (n + 2) * 65536 + ldg u (n + 1) < ldg v (n + 1) * 65536 + 65536 := by
    rw [eu, ev] at hlt3
    rcases Nat.lt_or_ge (ldg u (n + 2) * 65536 + ldg u (n + 1)) (ldg v (n + 1) * 65536 + 65536) with h | h
    · exact h
    · exfalso
      have h1 := Nat.mul_le_mul_right (65536 * P) h
      have h2 : ldg v n * P + P ≤ 65536 * P := by rw [← Nat.succ_mul]; exact Nat.mul_le_mul_right _ hv2
      have e1 : 65536 * ((ldg v (n + 1) * 65536 + ldg v n) * P + val (v.take n)) = (ldg v (n + 1) * 65536) * (65536 * P) + 65536 * (ldg v n * P + val (v.take n)) := by grind
      have e2 : ((ldg u (n + 2) * 65536 + ldg u (n + 1)) * 65536 + ldg u n) * P + val (u.take n) = (ldg u (n + 2) * 65536 + ldg u (n + 1)) * (65536 * P) + (ldg u n * P + val (u.take n)) := by grind
      have e3 : (ldg v (n + 1) * 65536 + 65536) * (65536 * P) = (ldg v (n + 1) * 65536) * (65536 * P) + 65536 * (65536 * P) := by grind
      omega
  rw [ev, eu] at hQ3
  obtain ⟨o1, ho1, q, rfl, hq, hQq, hqle⟩ := qXv (N := N) (n := n + 2) (top := ldg u (n + 2) * 65536 + ldg u (n + 1)) (u2 := ldg u n) (vt := ldg v (n + 1)) (v2 := ldg v n) hu hv (by omega) hn0 (by omega) (by omega) rfl rfl rfl (by simpa using ht) hP hQl hQ hQ3 htop hN
  rw [← ev, ← eu] at hqle
  obtain ⟨o2, ho2, hd2, hl2, b, hb, hob, hv2'⟩ := qX8 (N := N) (q := q) hu hv (by omega) (by omega) hq hN
  rw [hn0] at hv2'
  have hlt2 : val o2.1 < 65536 ^ (n + 2 + 1) := by have := jGf hd2; rwa [hl2, hul] at this
  -- the beginning
  have ht0 : ldg v (n + 1) ≠ 0 := by have : ldg v (n + 1) = ldg v (n + 2 - 1) := rfl; omega
  have hstart : jK8 N u v = (jXf (jW9 N u v) N ((((ldg u (n + 2) * 65536 + ldg u (n + 1)) / ldg v (n + 1) : Nat) : Int), (((ldg u (n + 2) * 65536 + ldg u (n + 1)) % ldg v (n + 1) : Nat) : Int))).bind fun o14 => (jXf (jWy N v o14) N (u, 0, 0, 0)).bind fun o26 => bif (jJq .lss o26.2 0) then ((jXf (jWw N v) N (o26.1, 0, 0)).bind fun o34 => (idx o34.1 (List.length v : Int)).bind fun v36 => (idx o34.1 (List.length v : Int)).bind fun v37 => some ((List.set o34.1 (Int.toNat (List.length v : Int)) (IntKind.u16.wrap (v36 + (IntKind.u16.wrap o34.2)))), (IntKind.u16.wrap (IntKind.u64.wrap (o14 - 1))))) else (some (o26.1, (IntKind.u16.wrap o14))) := by
    unfold jK8
    have hn1 : IntKind.i64.wrap (((n + 2 : Nat) : Int) - 1) = ((n + 1 : Nat) : Int) := by rw [jN3 (by omega) (by omega)]; omega
    have hsh : jSy .u64 ((ldg u (n + 2) : Nat) : Int) 16 = some ((65536 * ldg u (n + 2) : Nat) : Int) := jTg (by omega)
    have hor : jKd .or .u64 ((65536 * ldg u (n + 2) : Nat) : Int) ((ldg u (n + 1) : Nat) : Int) = ((65536 * ldg u (n + 2) + ldg u (n + 1) : Nat) : Int) := or64 hu1 (by omega)
    rw [hn0]
    simp (disch := omega) only [jUk hu, jUk hv, bS, qZ8, hsh, hn1, hor, quo64 ht0, remN ht0]
    rw [Nat.mul_comm 65536 (ldg u (n + 2))]
  rw [hstart, ho1, bS, ho2, bS, hob]
  rcases Nat.lt_or_ge b 1 with h0 | h1
  · obtain rfl : b = 0 := by omega
    have hqQ : q = Q := by
      have h1 : q ≤ Q := by rw [← hQv, Nat.le_div_iff_mul_le hV0]; omega
      omega
    subst hqQ
    refine ⟨o2.1, ?_, hd2, hl2, ?_⟩
    · rw [show jJq .lss (-((0 : Nat) : Int)) 0 = false from rfl, cnF, qQ4, show ((q : Nat) : Int) % 65536 = q by omega]
    · have h2 := Nat.mod_add_div (val u) (val v)
      rw [hQv, Nat.mul_comm] at h2
      omega
  · obtain rfl : b = 1 := by omega
    have hqQ : q = Q + 1 := by
      have h1 : ¬ q ≤ Q := fun h => by
        have := Nat.mul_le_mul_right (val v) h
        omega
      have h2 : q - 1 ≤ Q := by
        rw [← hQv, Nat.le_div_iff_mul_le hV0, Nat.sub_mul]; omega
      omega
    subst hqQ
    obtain ⟨o3, ho3, hd3, hl3, hg3, c, hc, hoc, hv3⟩ := qJ3 (N := N) hd2 hv (by omega) (by omega) hN
    rw [hn0] at hg3 hv3
    have hw := jUf hd2 (n + 2)
    have hR : val u % val v < val v := Nat.mod_lt _ hV0
    have hVP : val v < 65536 ^ (n + 2) := by have := jGf hv; rwa [hn0] at this
    have h2 := Nat.mod_add_div (val u) (val v)
    rw [hQv, Nat.mul_comm] at h2
    have hcut := jQ8 o2.1 (n + 2)
    rw [List.take_of_length_le (by omega)] at hcut
    have htk : val (o3.1.take (n + 2)) < 65536 ^ (n + 2) := by have := jGf (jU9 hd3 (n + 2)); rwa [List.length_take, Nat.min_eq_left (by omega)] at this
    rw [Nat.pow_succ] at hv2'
    generalize hR0 : val u % val v = R at *
    generalize hT0 : val (o3.1.take (n + 2)) = T at *
    generalize 65536 ^ (n + 2) = M at *
    have hsum : T + M * (c + ldg o2.1 (n + 2)) = M * 65536 + R := by
      have e1 : M * (c + ldg o2.1 (n + 2)) = M * c + M * ldg o2.1 (n + 2) := Nat.mul_add _ _ _
      have e2 : (Q + 1) * val v = Q * val v + val v := by rw [Nat.add_mul, Nat.one_mul]
      omega
    have hcw : c + ldg o2.1 (n + 2) = 65536 := by
      rcases Nat.lt_trichotomy (c + ldg o2.1 (n + 2)) 65536 with h | h | h
      · exfalso
        have h3 : M * (c + ldg o2.1 (n + 2)) ≤ M * 65535 := Nat.mul_le_mul_left _ (by omega)
        omega
      · exact h
      · exfalso
        have h3 : M * 65537 ≤ M * (c + ldg o2.1 (n + 2)) := Nat.mul_le_mul_left _ (by omega)
        omega
    rw [hcw] at hsum
    refine ⟨o3.1.set (n + 2) 0, ?_, jD8 hd3 (by omega) (by omega), by rw [List.length_set]; omega, ?_⟩
    · have hi3 : idx o3.1 ((n + 2 : Nat) : Int) = some ((ldg o2.1 (n + 2) : Nat) : Int) := by rw [jUk hd3 (by omega), hg3]
      rw [show jJq .lss (-((1 : Nat) : Int)) 0 = true from rfl, cnT, ho3, bS, hn0, hi3, bS, bS, hoc, qQ4, qQ4, qQ4, qZ8 (by omega) (by omega), Int.toNat_natCast]
      rw [show (((ldg o2.1 (n + 2) : Nat) : Int) + (c : Int) % 65536) % 65536 = 0 by omega, show ((((Q + 1 : Nat) : Int) - 1) % 65536) = (Q : Int) by omega]
    · have h1 := jQ8 (o3.1.set (n + 2) 0) (n + 2)
      rw [List.take_of_length_le (by rw [List.length_set]; omega), jG7 (Nat.le_refl _), jY9 (by omega), hT0] at h1
      simp at h1
      omega

theorem qQz (k t a : Nat) (ha : a < 2 ^ k) : a ||| 2 ^ k * t = 2 ^ k * t + a := by
 rw [Nat.or_comm]
 have := Nat.shiftLeft_add_eq_or_of_lt ha t
 rw [Nat.shiftLeft_eq, Nat.mul_comm t] at this
 exact this.symm
theorem or16 {k t a : Nat} (ha : a < 2 ^ k) (h : 2 ^ k * t + a < 65536) : jKd .or .u16 (a : Int) ((2 ^ k * t : Nat) : Int) = ((2 ^ k * t + a : Nat) : Int) := by
 unfold jKd
 simp only []
 have e : (BitVec.ofInt IntKind.u16.bits (a : Int) ||| BitVec.ofInt IntKind.u16.bits ((2 ^ k * t : Nat) : Int)).toNat = 2 ^ k * t + a := by
  rw [BitVec.ofInt_natCast, BitVec.ofInt_natCast, BitVec.toNat_or, BitVec.toNat_ofNat, BitVec.toNat_ofNat]
  show a % 2 ^ 16 ||| (2 ^ k * t) % 2 ^ 16 = _
  rw [Nat.mod_eq_of_lt (by omega), Nat.mod_eq_of_lt (by omega), qQz k t a ha]
 rw [e, qQ4]; omega
theorem or32' {a d : Nat} (hd : d < 65536) (h : 65536 * a + d < 4294967296) : jKd .or .u32 ((d : Nat) : Int) ((65536 * a : Nat) : Int) = ((65536 * a + d : Nat) : Int) := by
 unfold jKd
 simp only []
 have e : (BitVec.ofInt IntKind.u32.bits ((d : Nat) : Int) ||| BitVec.ofInt IntKind.u32.bits ((65536 * a : Nat) : Int)).toNat = 65536 * a + d := by
  rw [BitVec.ofInt_natCast, BitVec.ofInt_natCast, BitVec.toNat_or, BitVec.toNat_ofNat, BitVec.toNat_ofNat]
  show d % 2 ^ 32 ||| (65536 * a) % 2 ^ 32 = _
  rw [Nat.mod_eq_of_lt (by omega), Nat.mod_eq_of_lt (by omega), Nat.or_comm, or_mul a d hd]
 rw [e, IntKind.wrap_u32]; omega
theorem shl32k {x k : Nat} (hk : k ≤ 16) (h : x * 2 ^ k < 4294967296) : jSy .u32 (x : Int) (k : Int) = some ((x * 2 ^ k : Nat) : Int) := by
 unfold jSy
 rw [if_neg (by omega), show min (Int.toNat (k : Int)) IntKind.u32.bits = k by rw [Int.toNat_natCast]; show min k 32 = k; omega]
 rw [show (x : Int) * 2 ^ k = ((x * 2 ^ k : Nat) : Int) by simp, u32n h]
theorem shr32k {x k : Nat} (hk : k ≤ 16) : jR0 .u32 (x : Int) (k : Int) = some ((x / 2 ^ k : Nat) : Int) := by
 unfold jR0
 rw [if_neg (by omega), show min (Int.toNat (k : Int)) IntKind.u32.bits = k by rw [Int.toNat_natCast]; show min k 32 = k; omega]
 rw [show ((2 : Int) ^ k) = ((2 ^ k : Nat) : Int) by simp, Int.fdiv_eq_ediv_of_nonneg _ (Int.natCast_nonneg _)]
 rfl
theorem jM1 {k : Nat} (hk : k ≤ 16) : (65536 : Nat) = 2 ^ k * 2 ^ (16 - k) := by rw [← Nat.pow_add, show k + (16 - k) = 16 by omega]
theorem jSk {N k : Nat} {a : List Int} (ha : Dig a) (hk : k ≤ 15) (hl : a.length ≤ 1000000) (hN : 2 ^ 64 ≤ N) : ∃ x, jWj N a (k : Int) = some x ∧ Dig x ∧ x.length = a.length + 1 ∧ val x = val a * 2 ^ k := by
  unfold jWj
  have h15 : 2 ^ k ≤ 32768 := Nat.pow_le_pow_right (by decide) hk
  have hk0 : 0 < 2 ^ k := Nat.pow_pos (by decide)
  have hsp := jM1 (show k ≤ 16 by omega)
  rw [jN3 (by omega) (by omega), jA9 (by omega) (by omega), bS, show ((a.length : Int) + 1).toNat = a.length + 1 by omega]
  obtain ⟨o, ho, hp⟩ := jUh (f := jVn N a (k : Int)) (fun s => ∃ i : Nat, i ≤ a.length ∧ s.2 = (i : Int) ∧ Dig s.1 ∧ s.1.length = a.length + 1 ∧ ldg s.1 i < 2 ^ k ∧ val (s.1.take (i + 1)) = val (a.take i) * 2 ^ k) (fun s => a.length - s.2.toNat)
    (fun o => Dig o ∧ o.length = a.length + 1 ∧ val o = val a * 2 ^ k) (by
    rintro ⟨x, ii⟩ ⟨i, hi, hs, hd, hlen, hg, hv⟩
    simp only at hs hd hlen hg hv; subst hs
    unfold jVn
    by_cases hlt : i < a.length
    · have hx := jUf ha i
      have hw : ldg a i * 2 ^ k < 65536 * 2 ^ k := Nat.mul_lt_mul_of_pos_right hx hk0
      have hmod : (ldg a i * 2 ^ k) % 65536 = 2 ^ k * (ldg a i % 2 ^ (16 - k)) := by
        conv => lhs; rw [hsp, Nat.mul_comm (ldg a i)]
        exact Nat.mul_mod_mul_left _ _ _
      have hdiv : ldg a i * 2 ^ k / 65536 < 2 ^ k := by rw [Nat.div_lt_iff_lt_mul (by omega)]; omega
      have hlt2 : 2 ^ k * (ldg a i % 2 ^ (16 - k)) + ldg x i < 65536 := by
        have h1 : ldg a i % 2 ^ (16 - k) + 1 ≤ 2 ^ (16 - k) := Nat.mod_lt _ (Nat.pow_pos (by decide))
        have h2 := Nat.mul_le_mul_left (2 ^ k) h1
        rw [← hsp, Nat.mul_add] at h2
        omega
      have hmod2 : IntKind.u16.wrap ((ldg a i * 2 ^ k : Nat) : Int) = ((2 ^ k * (ldg a i % 2 ^ (16 - k)) : Nat) : Int) := by rw [qQ4, ← hmod, Int.natCast_emod]; rfl
      have hd1 : Dig (x.set i ((2 ^ k * (ldg a i % 2 ^ (16 - k)) + ldg x i : Nat) : Int)) := jD8 hd (by omega) (by omega)
      refine .inl ⟨((x.set i ((2 ^ k * (ldg a i % 2 ^ (16 - k)) + ldg x i : Nat) : Int)).set (i + 1) ((ldg a i * 2 ^ k / 65536 : Nat) : Int), ((i + 1 : Nat) : Int)), ?_, ⟨i + 1, by omega, rfl, jD8 hd1 (by omega) (by omega), by simp [hlen], ?_, ?_⟩, by simp; omega⟩
      · have hi1 : IntKind.i64.wrap ((i : Int) + 1) = ((i + 1 : Nat) : Int) := by rw [jN3 (by omega) (by omega)]; omega
        have hix : idx (x.set i ((2 ^ k * (ldg a i % 2 ^ (16 - k)) + ldg x i : Nat) : Int)) ((i + 1 : Nat) : Int) = some ((ldg (x.set i ((2 ^ k * (ldg a i % 2 ^ (16 - k)) + ldg x i : Nat) : Int)) (i + 1) : Nat) : Int) := jUk hd1 (by simp; omega)
        have hshr : jR0 .u32 ((ldg a i * 2 ^ k : Nat) : Int) 16 = some ((ldg a i * 2 ^ k / 65536 : Nat) : Int) := by rw [jCs (by decide), Int.natCast_ediv]; rfl
        have hsl : jSy .u32 ((ldg a i : Nat) : Int) (k : Int) = some ((ldg a i * 2 ^ k : Nat) : Int) := shl32k (by omega) (by omega)
        simp (disch := omega) only [jQr, dT, cnT, jUk ha, jUk hd, bS, u32i, hsl, hmod2, or16 hg hlt2, hshr, hi1, Int.toNat_natCast, hix]
        rw [show IntKind.u16.wrap ((ldg a i * 2 ^ k / 65536 : Nat) : Int) = ((ldg a i * 2 ^ k / 65536 : Nat) : Int) by rw [qQ4]; omega]
      · rw [jY9 (by simp; omega), Int.toNat_natCast]; exact hdiv
      · rw [jQ8, jQ8, jG7 (by omega), jG7 (Nat.le_refl i), jY9 (by simp; omega), jSb (by omega), jY9 (by omega), Int.toNat_natCast, Int.toNat_natCast, ← hmod, jQ8]
        rw [jQ8] at hv
        have h2 := Nat.mod_add_div (ldg a i * 2 ^ k) 65536
        rw [Nat.pow_succ]
        generalize (ldg a i * 2 ^ k) % 65536 = mm at *
        generalize (ldg a i * 2 ^ k) / 65536 = dd at *
        generalize 65536 ^ i = P at *
        have h3 : P * (mm + 65536 * dd) = P * (ldg a i * 2 ^ k) := by rw [h2]
        clear hmod hmod2 hd1 hsp hw hlt2 hdiv
        grind
    · obtain rfl : i = a.length := by omega
      refine .inr ⟨x, ?_, hd, hlen, ?_⟩
      · simp (disch := omega) only [jQr, dF, cnF]
      · rw [List.take_of_length_le (by omega), List.take_length] at hv; exact hv) N (List.replicate (a.length + 1) 0, 0) ⟨0, by omega, rfl, jTh _, by simp, by rw [qZj]; exact hk0, by rw [jQ8, qZj]; simp [val]⟩ (by simp; omega)
  rw [ho]
  exact ⟨o, rfl, hp⟩

def lenT : Str := [0, 1, 2, 2, 3, 3, 3, 3, 4, 4, 4, 4, 4, 4, 4, 4, 5, 5, 5, 5, 5, 5, 5, 5, 5, 5, 5, 5, 5, 5, 5, 5, 6, 6, 6, 6, 6, 6, 6, 6, 6, 6, 6, 6, 6, 6, 6, 6, 6, 6, 6, 6, 6, 6, 6, 6, 6, 6, 6, 6, 6, 6, 6, 6, 7, 7, 7, 7, 7, 7, 7, 7, 7, 7, 7, 7, 7, 7, 7, 7, 7, 7, 7, 7, 7, 7, 7, 7, 7, 7, 7, 7, 7, 7, 7, 7, 7, 7, 7, 7, 7, 7, 7, 7, 7, 7, 7, 7, 7, 7, 7, 7, 7, 7, 7, 7, 7, 7, 7, 7, 7, 7, 7, 7, 7, 7, 7, 7, 8, 8, 8, 8, 8, 8, 8, 8, 8, 8, 8, 8, 8, 8, 8, 8, 8, 8, 8, 8, 8, 8, 8, 8, 8, 8, 8, 8, 8, 8, 8, 8, 8, 8, 8, 8, 8, 8, 8, 8, 8, 8, 8, 8, 8, 8, 8, 8, 8, 8, 8, 8, 8, 8, 8, 8, 8, 8, 8, 8, 8, 8, 8, 8, 8, 8, 8, 8, 8, 8, 8, 8, 8, 8, 8, 8, 8, 8, 8, 8, 8, 8, 8, 8, 8, 8, 8, 8, 8, 8, 8, 8, 8, 8, 8, 8, 8, 8, 8, 8, 8, 8, 8, 8, 8, 8, 8, 8, 8, 8, 8, 8, 8, 8, 8, 8, 8, 8, 8, 8, 8, 8, 8, 8, 8, 8, 8, 8]
theorem qYp : ((List.range 256).all fun i => match idx lenT (i : Int) with | some c => Nat.beq i 0 || (Nat.blt i (2 ^ c.toNat) && Nat.ble (2 ^ c.toNat) (2 * i) && Nat.ble c.toNat 8) | none => false) = true := by kernel_rfl
theorem qZq {i : Nat} (hi : i < 256) (h0 : i ≠ 0) : ∃ c : UInt8, idx lenT (i : Int) = some c ∧ i < 2 ^ c.toNat ∧ 2 ^ c.toNat ≤ 2 * i ∧ c.toNat ≤ 8 := by
 have := List.all_eq_true.1 qYp i (List.mem_range.2 hi)
 cases hx : idx lenT (i : Int) with
 | none => rw [hx] at this; cases this
 | some c =>
  rw [hx] at this
  simp only [Bool.or_eq_true, Bool.and_eq_true, Nat.beq_eq, Nat.blt_eq, Nat.ble_eq] at this
  rcases this with h | ⟨⟨h1, h2⟩, h3⟩
  ·exact absurd h h0
  ·exact ⟨c, rfl, h1, h2, h3⟩
theorem qXf {N : Nat} {x : Int} : jHd N x = bif (jJq .geq x 256) then ((jR0 .u16 x 8).bind fun v1 => (idx lenT (IntKind.u8.wrap v1)).bind fun v2 => some (IntKind.i64.wrap (8 + (IntKind.i64.wrap ((UInt8.toNat v2 : Nat) : Int))))) else ((idx lenT (IntKind.u8.wrap x)).bind fun v3 => some (IntKind.i64.wrap (0 + (IntKind.i64.wrap ((UInt8.toNat v3 : Nat) : Int))))) := rfl
theorem lz16 {N d : Nat} (h0 : d ≠ 0) (hd : d < 65536) : ∃ k : Nat, k ≤ 15 ∧ jV6 N (d : Int) = some (k : Int) ∧ 32768 ≤ d * 2 ^ k ∧ (d + 1) * 2 ^ k ≤ 65536 := by
  have key : ∃ t : Nat, t ≤ 16 ∧ 1 ≤ t ∧ jHd N (d : Int) = some (t : Int) ∧ d < 2 ^ t ∧ 2 ^ t ≤ 2 * d := by
    rw [qXf]
    by_cases h : d < 256
    · obtain ⟨c, h1, h2, h3, h4⟩ := qZq h h0
      refine ⟨c.toNat, by omega, ?_, ?_, h2, h3⟩
      · rcases Nat.eq_zero_or_pos c.toNat with h5 | h5
        · rw [h5] at h2; omega
        · exact h5
      · rw [jL6, dF (by omega), cnF, show IntKind.u8.wrap (d : Int) = d by rw [IntKind.wrap_u8]; omega, h1, bS, jN3 (n := ((UInt8.toNat c : Nat) : Int)) (by omega) (by omega), jN3 (by omega) (by omega)]
        simp
    · obtain ⟨c, h1, h2, h3, h4⟩ := qZq (i := d / 256) (by omega) (by omega)
      have hp : 2 ^ (8 + c.toNat) = 256 * 2 ^ c.toNat := by rw [Nat.pow_add]
      refine ⟨8 + c.toNat, by omega, by omega, ?_, by omega, by omega⟩
      have hs : jR0 .u16 (d : Int) 8 = some ((d / 256 : Nat) : Int) := by
        unfold jR0
        rw [if_neg (by decide), show min (Int.toNat 8) IntKind.u16.bits = 8 by decide, Int.fdiv_eq_ediv_of_nonneg _ (by decide)]
        rfl
      rw [jL6, dT (by omega), cnT, hs, bS, show IntKind.u8.wrap ((d / 256 : Nat) : Int) = ((d / 256 : Nat) : Int) by rw [IntKind.wrap_u8]; omega, h1, bS, jN3 (n := ((UInt8.toNat c : Nat) : Int)) (by omega) (by omega), jN3 (by omega) (by omega)]
      congr 1
  obtain ⟨t, h1, h2, h3, h4, h5⟩ := key
  refine ⟨16 - t, by omega, ?_, ?_, ?_⟩
  · unfold jV6
    rw [h3, bS, jN3 (by omega) (by omega)]
    congr 1; omega
  · have := jM1 h1
    have h6 := Nat.mul_le_mul_right (2 ^ (16 - t)) h5
    rw [← this, Nat.mul_assoc] at h6
    omega
  · have := jM1 h1
    have h6 := Nat.mul_le_mul_right (2 ^ (16 - t)) (show d + 1 ≤ 2 ^ t from h4)
    omega
end Go.KB
namespace Go.KB
set_option linter.unusedVariables false
theorem jD3 {l : List Int} {k : Nat} (h : val l < 65536 ^ k) : val (l.take k) = val l := by
 have h1 := jRd l k
 rcases Nat.eq_zero_or_pos (val (l.drop k)) with h2 | h2
 ·rw [h2] at h1; omega
 ·exfalso
  have : 65536 ^ k * 1 ≤ 65536 ^ k * val (l.drop k) := Nat.mul_le_mul_left _ h2
  omega
theorem jS2 {l : List Int} {k : Nat} (h : val l < 65536 ^ k) : val (l.drop k) = 0 := by
 have h1 := jRd l k
 rcases Nat.eq_zero_or_pos (val (l.drop k)) with h2 | h2
 ·exact h2
 ·exfalso
  have : 65536 ^ k * 1 ≤ 65536 ^ k * val (l.drop k) := Nat.mul_le_mul_left _ h2
  omega
theorem jAd {a r U V : Nat} (hV : 0 < V) (hr : r = U % V) : (a + 65536 * r) % V = (a + 65536 * U) % V ∧ (a + 65536 * r) / V + 65536 * (U / V) = (a + 65536 * U) / V := by
 have h1 := Nat.div_add_mod U V
 have h2 : a + 65536 * U = (a + 65536 * r) + V * (65536 * (U / V)) := by
  rw [hr]
  have : V * (65536 * (U / V)) = 65536 * (V * (U / V)) := by rw [Nat.mul_left_comm]
  omega
 rw [h2]
 exact ⟨by rw [Nat.add_mul_mod_self_left], by rw [Nat.add_mul_div_left _ _ hV]⟩
theorem jAa {N : Nat} {u v : List Int} (hu : Dig u) (hv : Dig v) (hn : 2 ≤ v.length) (hul : v.length < u.length) (hl : u.length ≤ 1000000) (ht : 32768 ≤ ldg v (v.length - 1)) (htop : val (u.drop (u.length - v.length)) < val v) (hN : 2 ^ 64 ≤ N) :
    ∃ o, jXf (jWh N v) N (List.replicate (u.length - v.length) 0, u, ((u.length - v.length : Nat) : Int) - 1) = some o ∧ Dig o.1 ∧ o.1.length = u.length - v.length ∧ val o.1 = val u / val v ∧ Dig o.2 ∧ o.2.length = u.length ∧ val o.2 = val u % val v := by
  have hV0 : 0 < val v := by omega
  refine jUh (f := jWh N v) (fun s => ∃ j : Nat, j ≤ u.length - v.length ∧ s.2.2 = (j : Int) - 1 ∧ Dig s.1 ∧ s.1.length = u.length - v.length ∧ Dig s.2.1 ∧ s.2.1.length = u.length ∧ val (s.2.1.drop j) = val (u.drop j) % val v ∧ val (s.1.drop j) = val (u.drop j) / val v ∧ s.2.1.take j = u.take j) (fun s => (s.2.2 + 1).toNat) _ ?_ N _
    ⟨u.length - v.length, Nat.le_refl _, rfl, jTh _, by simp, hu, rfl, by rw [Nat.mod_eq_of_lt htop], by rw [Nat.div_eq_of_lt htop]; simp [val], rfl⟩ (by simp only []; omega)
  rintro ⟨q, x, jj⟩ ⟨j, hj, hs, hdq, hql, hdx, hxl, hmod, hdiv, htk⟩
  simp only at hs hdq hql hdx hxl hmod hdiv htk; subst hs
  unfold jWh
  cases j with
  | zero =>
    refine .inr ⟨(q, x), ?_, hdq, hql, by simpa using hdiv, hdx, hxl, by simpa using hmod⟩
    simp
  | succ j =>
    have ej : ((j + 1 : Nat) : Int) - 1 = (j : Int) := by omega
    have hR : val (u.drop (j + 1)) % val v < val v := Nat.mod_lt _ hV0
    have hxj : ldg x j = ldg u j := by
      have h1 := congrArg (fun l => ldg l j) htk
      simpa [ldg, List.getElem?_take] using h1
    have hgj := jUf hu j
    have hxd := jLu x j
    rw [hxj, hmod] at hxd
    have hVn : val v < 65536 ^ v.length := jGf hv
    have hxlt : val (x.drop j) < 65536 * val v := by
      have := Nat.mul_le_mul_left 65536 (show val (u.drop (j + 1)) % val v + 1 ≤ val v from hR)
      omega
    have hxlt2 : val (x.drop j) < 65536 ^ (v.length + 1) := by rw [Nat.pow_succ]; omega
    have hsl : ((x.drop j).take (v.length + 1)).length = v.length + 1 := by rw [List.length_take, List.length_drop]; omega
    obtain ⟨y, hy, hdy, hyl, hyv⟩ := digit_eq (N := N) (u := (x.drop j).take (v.length + 1)) (v := v) (jU9 (jPm hdx j) _) hv hn hsl (by omega) ht (by rw [jD3 hxlt2]; exact hxlt) hN
    rw [jD3 hxlt2] at hy hyv
    have hz := jS2 hxlt2
    rw [List.drop_drop] at hz
    obtain ⟨sm, sd⟩ := jAd (a := ldg u j) hV0 (rfl : val (u.drop (j + 1)) % val v = _)
    rw [← hxd] at sm sd
    have hud := jLu u j
    rw [← hud] at sm sd
    have hdx' : Dig (x.take j ++ y ++ x.drop (j + (v.length + 1))) := qZf (qZf (jU9 hdx _) hdy) (jPm hdx _)
    have hqd : val (x.drop j) / val v < 65536 := by rw [Nat.div_lt_iff_lt_mul hV0]; exact hxlt
    refine .inl ⟨(q.set j ((val (x.drop j) / val v : Nat) : Int), x.take j ++ y ++ x.drop (j + (v.length + 1)), (j : Int) - 1), ?_,
      ⟨j, by omega, rfl, jD8 hdq (Int.natCast_nonneg _) (Int.ofNat_lt.2 hqd), by simp [hql], hdx', ?_, ?_, ?_, ?_⟩, by simp only []; omega⟩
    · simp only [ej]
      have e1 : IntKind.i64.wrap (IntKind.i64.wrap ((j : Int) + (v.length : Int)) + 1) = ((j + (v.length + 1) : Nat) : Int) := by rw [jN3 (n := (j : Int) + (v.length : Int)) (by omega) (by omega), jN3 (by omega) (by omega)]; omega
      have hslc : slc x (j : Int) ((j + (v.length + 1) : Nat) : Int) = some ((x.take (j + (v.length + 1))).drop j) := by
        unfold slc
        rw [show (decide ((0 : Int) ≤ (j : Int)) && decide ((j : Int) ≤ ((j + (v.length + 1) : Nat) : Int)) && decide (((j + (v.length + 1) : Nat) : Int) ≤ (x.length : Int))) = true by simp only [Bool.and_eq_true, decide_eq_true_eq]; omega, cnT, Int.toNat_natCast, Int.toNat_natCast]
      rw [jL6, dT (by omega), cnT, e1, hslc, bS, Int.toNat_natCast, Int.toNat_natCast, show j + (v.length + 1) - j = v.length + 1 by omega, hy, bS, jUk hdq (by omega), bS, jN3 (n := (j : Int) - 1) (by omega) (by omega)]
    · simp only [List.length_append, List.length_take, List.length_drop]; omega
    · have : (x.take j ++ y ++ x.drop (j + (v.length + 1))).drop j = y ++ x.drop (j + (v.length + 1)) := by
        rw [List.append_assoc, List.drop_left' (by rw [List.length_take]; omega)]
      rw [this, val_append, hz, Nat.mul_zero, Nat.add_zero, hyv, sm]
    · rw [jLu, jY9 (by omega), Int.toNat_natCast, jFp (by omega), hdiv, sd]
    · rw [List.append_assoc, List.take_append_of_le_length (by rw [List.length_take]; omega), List.take_take, Nat.min_self]
      have := congrArg (List.take j) htk
      simpa [List.take_take] using this
theorem qQj {A B Z k : Nat} (hk : k ≤ 15) : (A + 65536 * B + 65536 * (65536 * Z)) / 2 ^ k % 65536 = (A + 65536 * B) / 2 ^ k % 65536 := by
 have hsp := jM1 (show k ≤ 16 by omega)
 have h0 : 0 < 2 ^ k := Nat.pow_pos (by decide)
 have : A + 65536 * B + 65536 * (65536 * Z) = (A + 65536 * B) + 2 ^ k * (2 ^ (16 - k) * Z * 65536) := by
  have e : 65536 * (65536 * Z) = (2 ^ k * 2 ^ (16 - k)) * (65536 * Z) := by rw [← hsp]
  rw [e]
  congr 1
  rw [Nat.mul_assoc, Nat.mul_comm 65536 Z, ← Nat.mul_assoc (2 ^ (16 - k))]
 rw [this, Nat.add_mul_div_left _ _ h0, Nat.add_mul_mod_self_right]
theorem jC9 {N k : Nat} {q x v : List Int} (hx : Dig x) (hk : k ≤ 15) (hl : x.length ≤ 1000000) (hvl : v.length < x.length) (hN : 2 ^ 64 ≤ N) :
    ∃ o, jXf (jWl N (k : Int) v (q, x)) N (List.replicate v.length 0, 0) = some o ∧ Dig o ∧ o.length = v.length ∧ val o = val x / 2 ^ k % 65536 ^ v.length := by
  refine jUh (f := jWl N (k : Int) v (q, x)) (fun s => ∃ i : Nat, i ≤ v.length ∧ s.2 = (i : Int) ∧ Dig s.1 ∧ s.1.length = v.length ∧ val (s.1.take i) = val x / 2 ^ k % 65536 ^ i) (fun s => v.length - s.2.toNat) _ ?_ N _ ⟨0, by omega, rfl, jTh _, by simp, by simp [val, Nat.mod_one]⟩ (by simp only []; omega)
  rintro ⟨r, ii⟩ ⟨i, hi, hs, hd, hlen, hval⟩
  simp only at hs hd hlen hval; subst hs
  unfold jWl
  by_cases hlt : i < v.length
  · have h1 := jUf hx i
    have h2 := jUf hx (i + 1)
    have hdg : (ldg x i + 65536 * ldg x (i + 1)) / 2 ^ k % 65536 = val x / 2 ^ k / 65536 ^ i % 65536 := by
      have hcm : val x / 2 ^ k / 65536 ^ i = val x / 65536 ^ i / 2 ^ k := by rw [Nat.div_div_eq_div_mul, Nat.div_div_eq_div_mul, Nat.mul_comm (2 ^ k)]
      rw [hcm]
      have h3 := jRd x i
      have h4 : val (x.take i) < 65536 ^ i := Nat.lt_of_lt_of_le (jGf (jU9 hx i)) (Nat.pow_le_pow_right (by decide) (by rw [List.length_take]; omega))
      have h5 : val x / 65536 ^ i = val (x.drop i) := by
        rw [h3, Nat.add_mul_div_left _ _ (Nat.pow_pos (by decide)), Nat.div_eq_of_lt h4, Nat.zero_add]
      rw [h5, jLu x i, jLu x (i + 1), Nat.mul_add, ← Nat.add_assoc, qQj hk]
    refine .inl ⟨(r.set i (((ldg x i + 65536 * ldg x (i + 1)) / 2 ^ k % 65536 : Nat) : Int), ((i + 1 : Nat) : Int)), ?_, ⟨i + 1, by omega, rfl, jD8 hd (by omega) (by omega), by simp [hlen], ?_⟩, by simp; omega⟩
    · have hi1 : IntKind.i64.wrap ((i : Int) + 1) = ((i + 1 : Nat) : Int) := by rw [jN3 (by omega) (by omega)]; omega
      have hsl : jSy .u32 ((ldg x (i + 1) : Nat) : Int) 16 = some ((65536 * ldg x (i + 1) : Nat) : Int) := qJn (by omega)
      have hor : jKd .or .u32 ((ldg x i : Nat) : Int) ((65536 * ldg x (i + 1) : Nat) : Int) = ((65536 * ldg x (i + 1) + ldg x i : Nat) : Int) := or32' h1 (by omega)
      have hsr : jR0 .u32 ((65536 * ldg x (i + 1) + ldg x i : Nat) : Int) (k : Int) = some (((65536 * ldg x (i + 1) + ldg x i) / 2 ^ k : Nat) : Int) := shr32k (by omega)
      simp (disch := omega) only [jQr, dT, cnT, jUk hx, jUk hd, bS, u32i, hi1, hsl, hor, hsr, qQ4, Int.toNat_natCast]
      rw [Nat.add_comm (65536 * ldg x (i + 1))]
      rfl
    · rw [jQ8, jG7 (Nat.le_refl i), jY9 (by omega), Int.toNat_natCast, hval, hdg, Nat.pow_succ, Nat.mod_mul]
  · obtain rfl : i = v.length := by omega
    refine .inr ⟨r, ?_, hd, hlen, ?_⟩
    · simp (disch := omega) only [jQr, dF, cnF]
    · rw [List.take_of_length_le (by omega)] at hval; exact hval
theorem jRt {N m n : Nat} (hn0 : n ≠ 0) (hm : nl m ≤ 900000) (hn : nl n ≤ 900000) (hN : 2 ^ 64 ≤ N) : jVf N (limbs m) (limbs n) = some (limbs (m / n), limbs (m % n)) := by
  by_cases hone : nl n = 1
  · exact qQp hn0 (by have := jRn n; rw [hone] at this; omega) (by rw [jBh]; omega) hN
  have hpos := qZc hn0
  unfold jVf
  obtain ⟨c, hc, hclt, _⟩ := jSl (N := N) (a := m) (b := n) (by rw [jBh]; omega) (by rw [jBh]; omega) hN
  rw [hc, bS, jQr]
  by_cases hlt : m < n
  · rw [dT (hclt.2 hlt), cnT, jSt (by rw [jBh]; unfold lim; omega), bS, Nat.div_eq_of_lt hlt, Nat.mod_eq_of_lt hlt, jVy]
  · rw [dF (fun h => hlt (hclt.1 h)), cnF, jB9, dF (by rw [jBh]; omega), cnF]
    have hmn : nl n ≤ nl m := jRh (by omega)
    have hda := jZl m
    have hdb := jZl n
    have htop := qVw (n := n) (fun h => hn0 (jP6.1 h))
    rw [jBh] at htop
    have htl := jUf hdb (nl n - 1)
    obtain ⟨k, hk, hlz, hk1, hk2⟩ := lz16 (N := N) htop htl
    have e1 : IntKind.i64.wrap (((limbs n).length : Int) - 1) = ((nl n - 1 : Nat) : Int) := by rw [jBh, jN3 (by omega) (by omega)]; omega
    obtain ⟨x, hx, hdx, hxl, hxv⟩ := jSk (N := N) (k := k) hda hk (by rw [jBh]; omega) hN
    obtain ⟨y, hy, hdy, hyl, hyv⟩ := jSk (N := N) (k := k) hdb hk (by rw [jBh]; omega) hN
    rw [jBh] at hxl hyl
    rw [jV8] at hxv hyv
    have h2k : 0 < 2 ^ k := Nat.pow_pos (by decide)
    have h15 : 2 ^ k ≤ 32768 := Nat.pow_le_pow_right (by decide) hk
    -- the divisor
    have hnb : ldg (limbs n) (nl n - 1) * 65536 ^ (nl n - 1) ≤ n ∧ n < (ldg (limbs n) (nl n - 1) + 1) * 65536 ^ (nl n - 1) := by
      have h1 := jQ8 (limbs n) (nl n - 1)
      rw [List.take_of_length_le (by rw [jBh]; omega), jV8] at h1
      have h2 := jGf (jU9 hdb (nl n - 1))
      rw [List.length_take, jBh, Nat.min_eq_left (by omega)] at h2
      constructor
      · have e := Nat.mul_comm (ldg (limbs n) (nl n - 1)) (65536 ^ (nl n - 1)); omega
      · have e : (ldg (limbs n) (nl n - 1) + 1) * 65536 ^ (nl n - 1) = 65536 ^ (nl n - 1) * ldg (limbs n) (nl n - 1) + 65536 ^ (nl n - 1) := by rw [Nat.add_mul, Nat.one_mul, Nat.mul_comm]
        omega
    have hPn : 65536 ^ nl n = 65536 * 65536 ^ (nl n - 1) := by rw [← Nat.pow_succ']; congr 1; omega
    have hyb : val y < 65536 ^ nl n := by
      rw [hyv, hPn]
      have h1 := Nat.mul_lt_mul_of_pos_right hnb.2 h2k
      have h2 := Nat.mul_le_mul_right (65536 ^ (nl n - 1)) hk2
      have e : (ldg (limbs n) (nl n - 1) + 1) * 65536 ^ (nl n - 1) * 2 ^ k = (ldg (limbs n) (nl n - 1) + 1) * 2 ^ k * 65536 ^ (nl n - 1) := by rw [Nat.mul_right_comm]
      omega
    have hya : 32768 * 65536 ^ (nl n - 1) ≤ val y := by
      rw [hyv]
      have h1 := Nat.mul_le_mul_right (2 ^ k) hnb.1
      have h2 := Nat.mul_le_mul_right (65536 ^ (nl n - 1)) hk1
      have e : ldg (limbs n) (nl n - 1) * 65536 ^ (nl n - 1) * 2 ^ k = ldg (limbs n) (nl n - 1) * 2 ^ k * 65536 ^ (nl n - 1) := by rw [Nat.mul_right_comm]
      omega
    have hvv := jD3 hyb
    have hvl : (y.take (nl n)).length = nl n := by rw [List.length_take]; omega
    have hdv := jU9 hdy (nl n)
    have hvt : 32768 ≤ ldg (y.take (nl n)) (nl n - 1) := by
      have h1 := jQ8 (y.take (nl n)) (nl n - 1)
      rw [List.take_of_length_le (by omega), hvv] at h1
      have h2 := jGf (jU9 hdv (nl n - 1))
      rw [List.length_take, hvl, Nat.min_eq_left (by omega)] at h2
      rcases Nat.lt_or_ge (ldg (y.take (nl n)) (nl n - 1)) 32768 with h | h
      · exfalso
        have h3 := Nat.mul_le_mul_left (65536 ^ (nl n - 1)) (show ldg (y.take (nl n)) (nl n - 1) ≤ 32767 by omega)
        omega
      · exact h
    -- the first digits of the dividend are less
    have htopx : val (x.drop (nl m + 1 - nl n)) < val (y.take (nl n)) := by
      rw [hvv]
      have h1 := jRd x (nl m + 1 - nl n)
      have h2 : val x < 65536 ^ nl m * 2 ^ k := by rw [hxv]; exact Nat.mul_lt_mul_of_pos_right (jRn m) h2k
      have h3 : 65536 ^ nl m = 65536 ^ (nl m + 1 - nl n) * 65536 ^ (nl n - 1) := by rw [← Nat.pow_add]; congr 1; omega
      rcases Nat.lt_or_ge (val (x.drop (nl m + 1 - nl n))) (val y) with h | h
      · exact h
      · exfalso
        have h4 : 65536 ^ (nl m + 1 - nl n) * (32768 * 65536 ^ (nl n - 1)) ≤ 65536 ^ (nl m + 1 - nl n) * val (x.drop (nl m + 1 - nl n)) := Nat.mul_le_mul_left _ (by omega)
        have h5 : 65536 ^ nl m * 2 ^ k ≤ 65536 ^ nl m * 32768 := Nat.mul_le_mul_left _ h15
        have h6 : 65536 ^ (nl m + 1 - nl n) * (32768 * 65536 ^ (nl n - 1)) = 65536 ^ nl m * 32768 := by rw [h3]; grind
        omega
    obtain ⟨o, ho, hdq, hql, hqv, hdr, hrl, hrv⟩ := jAa (N := N) hdx hdv (by omega) (by omega) (by omega) (by rw [hvl]; exact hvt) (by rw [hvl, hxl]; exact htopx) hN
    rw [hvl, hxl] at ho hql
    obtain ⟨r, hr, hdrr, hrrl, hrrv⟩ := jC9 (N := N) (k := k) (q := o.1) (x := o.2) (v := y.take (nl n)) hdr hk (by omega) (by omega) hN
    rw [hvl] at hr hrrl hrrv
    have hslc : slc y 0 (((limbs n).length : Nat) : Int) = some (y.take (nl n)) := by rw [jBh]; exact qJw (by omega)
    have e2 : IntKind.i64.wrap ((x.length : Int) - ((y.take (nl n)).length : Int)) = ((nl m + 1 - nl n : Nat) : Int) := by rw [hvl, jN3 (by omega) (by omega)]; omega
    rw [e1, jUk hdb (by rw [jBh]; omega), bS, hlz, bS, hx, bS, hy, bS, hslc, bS, e2, jA9 (by omega) (by omega), bS, Int.toNat_natCast, jN3 (n := ((nl m + 1 - nl n : Nat) : Int) - 1) (by omega) (by omega)]
    rw [ho, bS, hvl, jA9 (by omega) (by omega), bS, Int.toNat_natCast]
    rw [show o = (o.1, o.2) from rfl, hr, bS]
    have hq : val o.1 = m / n := by rw [hqv, hvv, hxv, hyv]; exact Nat.mul_div_mul_right _ _ h2k
    have hrem : val r = m % n := by
      rw [hrrv, hrv, hvv, hxv, hyv, Nat.mul_mod_mul_right, Nat.mul_div_cancel _ h2k]
      exact Nat.mod_eq_of_lt (Nat.lt_trans (Nat.mod_lt _ (by omega)) (jRn n))
    rw [jS3 hdq hq (by omega) (by omega), bS, jS3 hdrr hrem (by omega) (by omega), bS]

def qWl (a b : Nat) : Nat := (if a < b then 1 else 0) + (if a * b = 0 then 0 else Nat.log2 (a * b) + 1)
theorem qXe {x y : Nat} (hx : x ≠ 0) (h : 2 * x ≤ y) : Nat.log2 x + 1 ≤ Nat.log2 y := by
 rw [Nat.le_log2 (by omega), Nat.pow_succ]
 have := Nat.log2_self_le hx
 omega
theorem qVr {a b : Nat} (hb : b ≠ 0) (h : b ≤ a) : 2 * (a % b) ≤ a := by
 have h1 := Nat.mod_lt a (Nat.pos_of_ne_zero hb)
 have h2 := Nat.div_add_mod a b
 have h3 : 1 ≤ a / b := (Nat.le_div_iff_mul_le (Nat.pos_of_ne_zero hb)).2 (by omega)
 have h4 := Nat.mul_le_mul_left b h3
 omega
theorem qYg {a b : Nat} (hb : b ≠ 0) : qWl b (a % b) < qWl a b := by
 have hr := Nat.mod_lt a (Nat.pos_of_ne_zero hb)
 unfold qWl
 rw [if_neg (by omega)]
 by_cases hab : a < b
 ·rw [if_pos hab, Nat.mod_eq_of_lt hab, Nat.mul_comm b a]; omega
 ·rw [if_neg hab]
  have h0 : a * b ≠ 0 := Nat.mul_ne_zero (by omega) hb
  rw [if_neg h0]
  by_cases h1 : b * (a % b) = 0
  ·rw [if_pos h1]; omega
  ·rw [if_neg h1]
   have h2 : 2 * (b * (a % b)) ≤ a * b := by
    have := Nat.mul_le_mul_left b (qVr hb (show b ≤ a by omega))
    rw [Nat.mul_left_comm, Nat.mul_comm b a] at this; omega
   have := qXe h1 h2
   omega
theorem qW8 {a b : Nat} (ha : nl a ≤ 900000) (hb : nl b ≤ 900000) : qWl a b ≤ 30000000 := by
 unfold qWl
 have h1 : (if a < b then 1 else 0) ≤ 1 := by split <;> omega
 have h2 : (if a * b = 0 then 0 else Nat.log2 (a * b) + 1) ≤ 28800001 := by
  split
  ·omega
  ·rename_i h
   have : Nat.log2 (a * b) < 16 * (nl a + nl b) := by
    rw [Nat.log2_lt h]
    have := Nat.mul_lt_mul'' (jRn a) (jRn b)
    rw [← Nat.pow_add] at this
    rwa [show (65536 : Nat) = 2 ^ 16 from rfl, ← Nat.pow_mul] at this
   omega
 omega
theorem jRz {N : Nat} {l : List Int} (hl : 4 < l.length) : jYj N l = some (0, false) := by
 unfold jYj
 rw [jUr, dT (by omega), cnT]
theorem qQ2 {N a b : Nat} (ha : nl a ≤ 900000) (hb : nl b ≤ 900000) (hN : 2 ^ 64 ≤ N) : jUd N (limbs a) (limbs b) = some (limbs (Nat.gcd a b)) := by
  unfold jUd
  obtain ⟨o, ho, hp⟩ := jUh (f := jY3 N) (fun s => ∃ x y : Nat, s = (limbs x, limbs y) ∧ nl x ≤ 900000 ∧ nl y ≤ 900000 ∧ Nat.gcd x y = Nat.gcd a b) (fun s => qWl (val s.1) (val s.2)) (fun o => o = .inl (limbs (Nat.gcd a b)) ∨ o = .inr (limbs (Nat.gcd a b))) (by
    rintro s ⟨x, y, rfl, hx, hy, hg⟩
    unfold jY3
    by_cases hy0 : y = 0
    · subst hy0
      rw [Nat.gcd_zero_right] at hg
      subst hg
      refine .inr ⟨.inl (limbs (Nat.gcd a b)), ?_, .inl rfl⟩
      rw [jVy]; simp
    · have hyp := qZc hy0
      have hd : jVf N (limbs x) (limbs y) = some (limbs (x / y), limbs (x % y)) := jRt hy0 hx hy hN
      have hml : nl (x % y) ≤ nl y := jRh (Nat.le_of_lt (Nat.mod_lt _ (Nat.pos_of_ne_zero hy0)))
      have hgn : Nat.gcd y (x % y) = Nat.gcd a b := by rw [← hg, Nat.gcd_comm y, ← Nat.gcd_rec, Nat.gcd_comm]
      have hnext : some (Sum.inl (limbs y, limbs (x % y))) = (some (.inl (limbs y, limbs (x % y))) : Option ((List Int × List Int) ⊕ (List Int ⊕ List Int))) → ((∃ s', (some (Sum.inl (limbs y, limbs (x % y))) : Option ((List Int × List Int) ⊕ (List Int ⊕ List Int))) = some (.inl s') ∧ (∃ x' y' : Nat, s' = (limbs x', limbs y') ∧ nl x' ≤ 900000 ∧ nl y' ≤ 900000 ∧ Nat.gcd x' y' = Nat.gcd a b) ∧ qWl (val s'.1) (val s'.2) < qWl (val (limbs x, limbs y).1) (val (limbs x, limbs y).2))) := fun _ =>
        ⟨_, rfl, ⟨y, x % y, rfl, hy, by omega, hgn⟩, by simp only [jV8]; exact qYg hy0⟩
      simp only [jUr, jBh]
      rw [dT (show (0 : Int) < (nl y : Int) by omega), cnT]
      by_cases h4 : nl x ≤ 4
      · by_cases h5 : nl y ≤ 4
        · have hxb : x < 18446744073709551616 := Nat.lt_of_lt_of_le (jRn x) (by have := Nat.pow_le_pow_right (n := 65536) (by decide) h4; simpa using this)
          have hyb : y < 18446744073709551616 := Nat.lt_of_lt_of_le (jRn y) (by have := Nat.pow_le_pow_right (n := 65536) (by decide) h5; simpa using this)
          have hgb : Nat.gcd x y ≤ y := Nat.gcd_le_right x (by omega)
          rw [jTu (jZl x) h4 (by omega), bS, jTu (jZl y) h5 (by omega), bS]
          simp only [Bool.and_true, cnT, jV8]
          rw [qVp (jUj N) (fun s => rfl) (by omega), bS, jNf (by omega) (by omega), bS, hg]
          exact .inr ⟨_, rfl, .inr rfl⟩
        · rw [jTu (jZl x) h4 (by omega), bS, jRz (by rw [jBh]; omega), bS]
          simp only [Bool.and_false, cnF]
          rw [hd, bS]
          exact .inl (hnext rfl)
      · rw [jRz (by rw [jBh]; omega), bS]
        cases hw : jYj N (limbs y) with
        | none =>
          by_cases h5 : nl y ≤ 4
          · rw [jTu (jZl y) h5 (by omega)] at hw; cases hw
          · rw [jRz (by rw [jBh]; omega)] at hw; cases hw
        | some w =>
          rw [bS]
          simp only [Bool.false_and, cnF]
          rw [hd, bS]
          exact .inl (hnext rfl)) N _ ⟨a, b, rfl, ha, hb, rfl⟩ (by simp only [jV8]; have := qW8 ha hb; omega)
  rw [ho, bS]
  rcases hp with rfl | rfl <;> rfl
end Go.KB
namespace Go.KB
set_option linter.unusedVariables false
def jY5 (x : jXz) : Int := if x.Neg then -(val x.Limbs : Int) else (val x.Limbs : Int)
def I (z : Int) : jXz := ⟨decide (z < 0), limbs z.natAbs⟩
theorem gint_I {s : Bool} {n : Nat} : gint s n = I (bif s then -(n : Int) else (n : Int)) := by
 unfold gint I
 cases s with
 | false => simp
 | true =>
  simp only [cnT, Bool.true_and, Int.natAbs_neg, Int.natAbs_natCast, jXz.mk.injEq, and_true]
  rw [decide_eq_decide]; omega
theorem jN8 (z : Int) : jY5 (I z) = z := by
 unfold jY5 I
 simp only [jV8, decide_eq_true_eq]
 split <;> omega
theorem jH3 (x : jXz) : (jY5 x).natAbs = val x.Limbs := by unfold jY5; split <;> omega
def Sz (k : Nat) (q : Rat) : Prop := q.num.natAbs + q.den ≤ 2 ^ k
theorem Sz.mono {k l : Nat} {q : Rat} (h : Sz k q) (hl : k ≤ l) : Sz l q := Nat.le_trans h (Nat.pow_le_pow_right (by decide) hl)
theorem Sz.of {k : Nat} {a b : Int} (hb : b ≠ 0) (h : a.natAbs + b.natAbs ≤ 2 ^ k) : Sz k ((a : Rat) / (b : Rat)) := by
 unfold Sz
 rw [← Rat.divInt_eq_div, Rat.num_divInt, Rat.den_divInt, if_neg hb]
 have hg : 0 < Int.gcd b a := Int.gcd_pos_of_ne_zero_left _ hb
 have h1 : (b.sign * a / (Int.gcd b a : Int)).natAbs ≤ a.natAbs := by
  have hd : ((Int.gcd b a : Nat) : Int) ∣ b.sign * a := Int.dvd_mul_of_dvd_right (Int.gcd_dvd_right ..)
  rw [Int.natAbs_ediv_of_dvd hd, Int.natAbs_natCast, Int.natAbs_mul]
  have : b.sign.natAbs = 1 := by rw [Int.natAbs_sign_of_ne_zero hb]
  rw [this, Nat.one_mul]
  exact Nat.div_le_self _ _
 have h2 : b.natAbs / Int.gcd b a ≤ b.natAbs := Nat.div_le_self _ _
 omega
theorem jTt {a b c d k l : Nat} (h1 : a + b ≤ 2 ^ k) (h2 : c + d ≤ 2 ^ l) : a * c + b * d + (a * d + b * c) ≤ 2 ^ (k + l) := by
 have := Nat.mul_le_mul h1 h2
 rw [← Nat.pow_add] at this
 have e : (a + b) * (c + d) = a * c + b * d + (a * d + b * c) := by grind
 omega
theorem jCd (q : Rat) : q = (q.num : Rat) / ((q.den : Int) : Rat) := by rw [← Rat.divInt_eq_div]; exact (Rat.num_divInt_den q).symm
theorem jM6 (q : Rat) : (q.den : Int) ≠ 0 := by have := q.den_pos; omega
theorem jFx {n : Int} (h : n ≠ 0) : (n : Rat) ≠ 0 := fun e => h (by exact_mod_cast e)
theorem Sz.mul {k l : Nat} {p q : Rat} (hp : Sz k p) (hq : Sz l q) : Sz (k + l) (p * q) := by
 have e : p * q = ((p.num * q.num : Int) : Rat) / ((p.den * q.den : Int) : Rat) := by
  conv => lhs; rw [jCd p, jCd q]
  have h1 := jFx (jM6 p); have h2 := jFx (jM6 q)
  rw [Rat.intCast_mul, Rat.intCast_mul]
  grind
 rw [e]
 refine Sz.of (Int.mul_ne_zero (jM6 p) (jM6 q)) ?_
 rw [Int.natAbs_mul, Int.natAbs_mul, Int.natAbs_natCast, Int.natAbs_natCast]
 have := jTt hp hq
 omega
theorem Sz.add {k l : Nat} {p q : Rat} (hp : Sz k p) (hq : Sz l q) : Sz (k + l) (p + q) := by
 have e : p + q = ((p.num * q.den + q.num * p.den : Int) : Rat) / ((p.den * q.den : Int) : Rat) := by
  conv => lhs; rw [jCd p, jCd q]
  have h1 := jFx (jM6 p); have h2 := jFx (jM6 q)
  rw [Rat.intCast_mul, Rat.intCast_add, Rat.intCast_mul, Rat.intCast_mul]
  grind
 rw [e]
 refine Sz.of (Int.mul_ne_zero (jM6 p) (jM6 q)) ?_
 have h1 := Int.natAbs_add_le (p.num * q.den) (q.num * p.den)
 rw [Int.natAbs_mul, Int.natAbs_mul, Int.natAbs_natCast, Int.natAbs_natCast] at h1
 rw [Int.natAbs_mul, Int.natAbs_natCast, Int.natAbs_natCast]
 have h2 := jTt hp hq
 have h3 := Nat.mul_comm q.num.natAbs p.den
 omega
theorem Sz.neg {k : Nat} {p : Rat} (hp : Sz k p) : Sz k (-p) := by unfold Sz; rw [Rat.neg_num, Rat.neg_den, Int.natAbs_neg]; exact hp
theorem Sz.sub {k l : Nat} {p q : Rat} (hp : Sz k p) (hq : Sz l q) : Sz (k + l) (p - q) := by rw [Rat.sub_eq_add_neg]; exact hp.add hq.neg
theorem Sz.int {k : Nat} {n : Int} (h : n.natAbs < 2 ^ k) : Sz k (n : Rat) := by unfold Sz; rw [Rat.num_intCast, Rat.den_intCast]; omega
theorem Sz.zero : Sz 0 0 := by unfold Sz; simp
theorem qJs {n k : Nat} (h : n ≤ 2 ^ k) : nl n ≤ k / 16 + 1 := by
 refine qJ9 ?_
 rw [show (65536 : Nat) = 2 ^ 16 from rfl, ← Nat.pow_mul]
 exact Nat.lt_of_le_of_lt h (Nat.pow_lt_pow_right (by decide) (by omega))
def R (q : Rat) : jQg := ⟨I q.num, I (q.den : Int)⟩
def below (x : jQg) : Int := if jY5 x.Den = 0 then 1 else jY5 x.Den
def rv (x : jQg) : Rat := (jY5 x.Num : Rat) / (below x : Rat)
theorem jH4 (x : jQg) : below x ≠ 0 := by unfold below; split <;> omega
theorem rv_R (q : Rat) : rv (R q) = q := by
 unfold rv below R
 simp only [jN8, if_neg (jM6 q)]
 exact (jCd q).symm
structure Qf (k : Nat) (x : jQg) (q : Rat) : Prop where
 dn : Dig x.Num.Limbs
 dd : Dig x.Den.Limbs
 ln : x.Num.Limbs.length ≤ k / 16 + 1
 ld : x.Den.Limbs.length ≤ k / 16 + 1
 vq : rv x = q
theorem Qf.R {k : Nat} {q : Rat} (h : Sz k q) : Qf k (KB.R q) q := by
 refine ⟨jZl _, jZl _, qJs ?_, qJs ?_, rv_R q⟩
 ·unfold Sz at h; omega
 ·unfold Sz at h; rw [Int.natAbs_natCast]; omega
theorem Qf.mono {k l : Nat} {x : jQg} {q : Rat} (h : Qf k x q) (hl : k ≤ l) : Qf l x q := ⟨h.dn, h.dd, by have := h.ln; omega, by have := h.ld; omega, h.vq⟩
theorem gI16 {n : Int} (h : gI .u16 n) : 0 ≤ n ∧ n < 65536 := by
 obtain ⟨a, b⟩ := h
 have e1 : IntKind.u16.min = 0 := by decide
 have e2 : IntKind.u16.max = 65535 := by decide
 omega
theorem Qf.raw {k : Nat} {x : jQg} (h : x.ok) (h1 : x.Num.Limbs.length ≤ k / 16 + 1) (h2 : x.Den.Limbs.length ≤ k / 16 + 1) : Qf k x (rv x) := by
 obtain ⟨⟨_, ⟨_, h3⟩, _⟩, ⟨_, ⟨_, h4⟩, _⟩, _⟩ := h
 exact ⟨fun d hd => gI16 (h3 d hd), fun d hd => gI16 (h4 d hd), h1, h2, rfl⟩
theorem jSg {k : Nat} {l : List Int} (hd : Dig l) (hl : l.length ≤ k / 16 + 1) : val l < 2 ^ (k + 16) := by
 have := jGf hd
 refine Nat.lt_of_lt_of_le this ?_
 rw [show (65536 : Nat) = 2 ^ 16 from rfl, ← Nat.pow_mul]
 exact Nat.pow_le_pow_right (by decide) (by omega)
theorem Qf.sz {k : Nat} {x : jQg} {q : Rat} (h : Qf k x q) : Sz (k + 17) q := by
 rw [← h.vq]
 refine Sz.of (jH4 x) ?_
 have h1 := jSg h.dn h.ln
 have h2 := jSg h.dd h.ld
 have h3 := jH3 x.Num
 have h4 : (below x).natAbs ≤ 2 ^ (k + 16) := by
  unfold below
  have := jH3 x.Den
  split
  ·exact Nat.one_le_two_pow
  ·omega
 have : 2 ^ (k + 17) = 2 * 2 ^ (k + 16) := by rw [← Nat.pow_succ']
 omega
end Go.KB
namespace Go.KB
set_option linter.unusedVariables false
structure Io (k : Nat) (x : jXz) : Prop where
 dl : Dig x.Limbs
 ll : x.Limbs.length ≤ k
theorem nlv {l : List Int} (h : Dig l) : nl (val l) ≤ l.length := qJ9 (jGf h)
theorem Io.I {k : Nat} {z : Int} (h : nl z.natAbs ≤ k) : Io k (KB.I z) := ⟨jZl _, h⟩
theorem Io.nl {k : Nat} {x : jXz} (h : Io k x) : nl (jY5 x).natAbs ≤ k := by rw [jH3]; exact Nat.le_trans (nlv h.dl) h.ll
theorem jM2 {N k : Nat} {x : jXz} (h : Io k x) (hk : k ≤ 900000) (hN : 2 ^ 64 ≤ N) : jXb N x.Limbs = some (limbs (jY5 x).natAbs) := by
 have := h.ll
 rw [jH3]; exact jRc h.dl (by omega) (by omega)
theorem jD5 {N n : Nat} {s : Bool} (hn : nl n ≤ 900000) (hN : 2 ^ 64 ≤ N) : jX8 N s (limbs n) = some (I (bif s then -(n : Int) else n)) := by
 rw [qXk (by rw [jBh]; unfold lim; omega) (by rw [jBh]; omega), gint_I]
theorem qJk {N k l : Nat} {x y : jXz} (hx : Io k x) (hy : Io l y) (hk : k + l ≤ 900000) (hN : 2 ^ 64 ≤ N) : jWt N x y = some (I (jY5 x * jY5 y)) := by
 unfold jWt
 have h1 := hx.nl
 have h2 := hy.nl
 have h3 := jT1 (jY5 x).natAbs (jY5 y).natAbs
 rw [jM2 hx (by omega) hN, bS, jM2 hy (by omega) hN, bS, qVa (by omega) (by omega) hN, bS, jD5 (by omega) hN, bS]
 congr 2
 rw [jH3, jH3]
 unfold jY5
 cases x.Neg <;> cases y.Neg <;> simp [Int.neg_mul, Int.mul_neg]
theorem qV7 {x : jXz} : (if (jY5 x).natAbs = 0 then (0 : Int) else if x.Neg then -1 else 1) = (jY5 x).sign := by
 rw [jH3]
 unfold jY5
 split
 ·rename_i h; rw [h]; cases x.Neg <;> simp
 ·rename_i h
  cases x.Neg with
  | true => simp only [if_true]; rw [Int.sign_neg, Int.sign_eq_one_of_pos (by omega)]
  | false => simp only [Bool.false_eq_true, if_false]; rw [Int.sign_eq_one_of_pos (by omega)]
theorem sign_eq {N k : Nat} {x : jXz} (hx : Io k x) (hk : k ≤ 900000) (hN : 2 ^ 64 ≤ N) : jKj N x = some (jY5 x).sign := by
 unfold jKj
 rw [jM2 hx hk hN, bS, jB9, jBh, ← qV7]
 by_cases h : (jY5 x).natAbs = 0
 ·rw [h, qY8, if_pos rfl]; rfl
 ·have := qZc h
  rw [dF (by omega), cnF, if_neg h]
  cases x.Neg <;> rfl
theorem jL4 {N k l : Nat} {a b : jXz} (ha : Io k a) (hb : Io l b) (hk : k ≤ 400000) (hl : l ≤ 400000) (hb0 : jY5 b ≠ 0) (hN : 2 ^ 64 ≤ N) : jZp N a b = some (R ((jY5 a : Rat) / (jY5 b : Rat))) := by
 unfold jZp
 have h1 := ha.nl
 have h2 := hb.nl
 have hm0 : (jY5 b).natAbs ≠ 0 := by omega
 have hg0 : Nat.gcd (jY5 a).natAbs (jY5 b).natAbs ≠ 0 := fun e => hm0 (Nat.eq_zero_of_gcd_eq_zero_right e)
 have hgl : nl (Nat.gcd (jY5 a).natAbs (jY5 b).natAbs) ≤ nl (jY5 b).natAbs := jRh (Nat.gcd_le_right _ (by omega))
 have hda : nl ((jY5 a).natAbs / Nat.gcd (jY5 a).natAbs (jY5 b).natAbs) ≤ nl (jY5 a).natAbs := jRh (Nat.div_le_self _ _)
 have hdb : nl ((jY5 b).natAbs / Nat.gcd (jY5 a).natAbs (jY5 b).natAbs) ≤ nl (jY5 b).natAbs := jRh (Nat.div_le_self _ _)
 -- what it is
 have hR : R ((jY5 a : Rat) / (jY5 b : Rat)) = ⟨I (bif (!(a.Neg == b.Neg)) then -(((jY5 a).natAbs / Nat.gcd (jY5 a).natAbs (jY5 b).natAbs : Nat) : Int) else (((jY5 a).natAbs / Nat.gcd (jY5 a).natAbs (jY5 b).natAbs : Nat) : Int)), I (((jY5 b).natAbs / Nat.gcd (jY5 a).natAbs (jY5 b).natAbs : Nat) : Int)⟩ := by
  unfold R
  rw [← Rat.divInt_eq_div, Rat.num_divInt, Rat.den_divInt, if_neg hb0]
  have hgc : Int.gcd (jY5 b) (jY5 a) = Nat.gcd (jY5 a).natAbs (jY5 b).natAbs := by rw [Int.gcd_eq_natAbs_gcd_natAbs, Nat.gcd_comm]
  rw [hgc]
  have hdvd : ((Nat.gcd (jY5 a).natAbs (jY5 b).natAbs : Nat) : Int) ∣ ((jY5 a).natAbs : Int) := Int.natCast_dvd_natCast.2 (Nat.gcd_dvd_left _ _)
  congr 2
  rw [jH3] at *
  rw [jH3] at *
  generalize Nat.gcd (val a.Limbs) (val b.Limbs) = g at *
  rw [Int.natCast_ediv]
  have hbp : 0 < val b.Limbs := by omega
  unfold jY5
  cases a.Neg <;> cases b.Neg <;> simp only [if_true, Bool.false_eq_true, if_false, Int.sign_neg, Int.sign_eq_one_of_pos (show (0 : Int) < (val b.Limbs : Int) by omega), Int.one_mul, Int.neg_mul, Int.neg_neg, Int.mul_neg] <;> simp [Int.neg_ediv_of_dvd hdvd]
 rw [jM2 ha (by omega) hN, bS, jM2 hb (by omega) hN, bS, qQ2 (by omega) (by omega) hN, bS, hR]
 simp only [jBh, jW5]
 by_cases hg1 : Nat.gcd (jY5 a).natAbs (jY5 b).natAbs = 1
 ·rw [hg1]
  have hl1 : limbs 1 = [1] := by rw [jYa (by decide)]; simp [jVy]
  have hn1 : nl 1 = 1 := by unfold nl; rw [hl1]; rfl
  rw [hn1, hl1]
  simp only [Int.natCast_one, decide_true, Bool.not_true, Bool.not_false, cnT]
  rw [show idx [(1 : Int)] 0 = some 1 from rfl, bS]
  simp only [decide_true, Bool.not_true, Bool.or_false, cnF, Nat.div_one]
  rw [jD5 (by omega) hN, bS, jD5 (by omega) hN, bS]
  rfl
 ·have hcond : ∃ z : Int, ((bif (!(!decide (((nl (Nat.gcd (jY5 a).natAbs (jY5 b).natAbs) : Nat) : Int) = 1))) then (idx (limbs (Nat.gcd (jY5 a).natAbs (jY5 b).natAbs)) 0) else some 0) = some z) ∧ ((!decide (((nl (Nat.gcd (jY5 a).natAbs (jY5 b).natAbs) : Nat) : Int) = 1)) || (!decide (z = 1))) = true := by
   by_cases h1l : nl (Nat.gcd (jY5 a).natAbs (jY5 b).natAbs) = 1
   ·have hlt := jRn (Nat.gcd (jY5 a).natAbs (jY5 b).natAbs)
    rw [h1l] at hlt
    rw [h1l, jRa hg0 (by omega)]
    refine ⟨_, rfl, ?_⟩
    have : ((Nat.gcd (jY5 a).natAbs (jY5 b).natAbs : Nat) : Int) ≠ 1 := by omega
    simp [this]
   ·refine ⟨0, ?_, ?_⟩
    ·rw [dF (by omega)]; rfl
    ·rw [dF (by omega)]; rfl
  obtain ⟨z, hz1, hz2⟩ := hcond
  rw [hz1, bS, hz2, cnT, jRt hg0 (by omega) (by omega) hN, bS, jRt hg0 (by omega) (by omega) hN, bS]
  rw [jD5 (by omega) hN, bS, jD5 (by omega) hN, bS]
  rfl
theorem Qf.ion {k : Nat} {x : jQg} {q : Rat} (h : Qf k x q) : Io (k / 16 + 1) x.Num := ⟨h.dn, h.ln⟩
theorem Qf.iod {k : Nat} {x : jQg} {q : Rat} (h : Qf k x q) : Io (k / 16 + 1) x.Den := ⟨h.dd, h.ld⟩
theorem jPn {N k : Nat} {x : jQg} {q : Rat} (h : Qf k x q) (hk : k ≤ 4000000) (hN : 2 ^ 64 ≤ N) : ∃ b, jZt N x = some b ∧ jY5 b = below x ∧ Io (k / 16 + 1) b := by
  unfold jZt
  rw [sign_eq h.iod (by omega) hN, bS, jB9]
  by_cases h0 : jY5 x.Den = 0
  · refine ⟨⟨false, [1]⟩, ?_, ?_, ⟨qZw (by omega) (by omega), by simp⟩⟩
    · rw [h0]; rfl
    · rw [show below x = 1 by unfold below; rw [if_pos h0]]; simp [jY5, val]
  · refine ⟨x.Den, ?_, by simp [below, h0], h.iod⟩
    have : (jY5 x.Den).sign ≠ 0 := fun e => h0 (Int.sign_eq_zero_iff_zero.1 e)
    rw [dF this]; rfl
theorem qX7 {N k : Nat} {x : jQg} {q : Rat} (h : Qf k x q) (hk : k ≤ 4000000) (hN : 2 ^ 64 ≤ N) : jYy N x = some (decide (q = 0)) := by
 unfold jYy
 rw [sign_eq h.ion (by omega) hN, bS, jB9]
 congr 1
 rw [decide_eq_decide, Int.sign_eq_zero_iff_zero, ← h.vq]
 unfold rv
 have hb := jFx (jH4 x)
 constructor
 ·intro e; rw [e]; simp [Rat.div_def]
 ·intro e
  by_cases h0 : jY5 x.Num = 0
  ·exact h0
  ·exfalso
   have := jFx h0
   grind
theorem qZ6 {N k l : Nat} {x y : jQg} {p q : Rat} (hx : Qf k x p) (hy : Qf l y q) (hk : k + l ≤ 4000000) (hN : 2 ^ 64 ≤ N) : jKp N x y = some (R (p * q)) := by
 unfold jKp
 obtain ⟨b, hb, hbv, hbo⟩ := jPn hx (by omega) hN
 obtain ⟨c, hc, hcv, hco⟩ := jPn hy (by omega) hN
 have hn := jT1 (jY5 x.Num).natAbs (jY5 y.Num).natAbs
 have hd := jT1 (below x).natAbs (below y).natAbs
 have h1 := hx.ion.nl; have h2 := hy.ion.nl; have h3 := hbo.nl; have h4 := hco.nl
 rw [hbv] at h3; rw [hcv] at h4
 rw [← Int.natAbs_mul] at hn hd
 rw [qJk hx.ion hy.ion (by omega) hN, bS, hb, bS, hc, bS, qJk hbo hco (by omega) hN, bS, hbv, hcv]
 rw [jL4 (Io.I (Nat.le_refl _)) (Io.I (Nat.le_refl _)) (by omega) (by omega) (by rw [jN8]; exact Int.mul_ne_zero (jH4 x) (jH4 y)) hN, bS, jN8, jN8, ← hx.vq, ← hy.vq]
 unfold rv
 have hb1 := jFx (jH4 x); have hb2 := jFx (jH4 y)
 rw [Rat.intCast_mul, Rat.intCast_mul]
 congr 2
 grind
theorem Of_I {N : Nat} {z : Int} (h0 : -9223372036854775808 ≤ z) (h1 : z ≤ 9223372036854775807) (hN : 2 ^ 64 ≤ N) : jDn N z = some (I z) := by
  unfold jDn
  have hl : nl z.natAbs ≤ 4 := qJ9 (by omega)
  rw [jQr]
  by_cases hz : z < 0
  · have e : IntKind.u64.wrap (0 - IntKind.u64.wrap z) = ((z.natAbs : Nat) : Int) := by
      rw [IntKind.wrap_u64, IntKind.wrap_u64]; omega
    rw [dT hz, cnT, e, jNf (by omega) (by omega), bS, jD5 (by omega) hN, bS]
    congr 2; simp; omega
  · have e : IntKind.u64.wrap z = ((z.natAbs : Nat) : Int) := by rw [IntKind.wrap_u64]; omega
    rw [dF hz, cnF, e, jNf (by omega) (by omega), bS, jD5 (by omega) hN, bS]
    congr 2; simp; omega
theorem io_int {z : Int} (h0 : -9223372036854775808 ≤ z) (h1 : z ≤ 9223372036854775807) : Io 4 (I z) := Io.I (qJ9 (by omega))
theorem Sz.i64 {z : Int} (h0 : -9223372036854775808 ≤ z) (h1 : z ≤ 9223372036854775807) : Sz 64 (z : Rat) := Sz.int (by omega)
end Go.KB
