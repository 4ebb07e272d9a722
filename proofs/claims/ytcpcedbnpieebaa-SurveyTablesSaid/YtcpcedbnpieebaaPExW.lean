/- Plain laws of the exact package: quotient, remainder, greatest common divisor of natural numbers. No condition. -/
import Derived.Test.YtcpcedbnpieebaaPExV
namespace Go.KB
set_option linter.unusedVariables false

theorem val_take_full {l : List Int} {k : Nat} (h : val l < 65536 ^ k) : val (l.take k) = val l := by
  have h1 := val_cut l k
  rcases Nat.eq_zero_or_pos (val (l.drop k)) with h2 | h2
  · rw [h2] at h1; omega
  · exfalso
    have : 65536 ^ k * 1 ≤ 65536 ^ k * val (l.drop k) := Nat.mul_le_mul_left _ h2
    omega
theorem val_drop_zero {l : List Int} {k : Nat} (h : val l < 65536 ^ k) : val (l.drop k) = 0 := by
  have h1 := val_cut l k
  rcases Nat.eq_zero_or_pos (val (l.drop k)) with h2 | h2
  · exact h2
  · exfalso
    have : 65536 ^ k * 1 ≤ 65536 ^ k * val (l.drop k) := Nat.mul_le_mul_left _ h2
    omega
theorem step_divmod {a r U V : Nat} (hV : 0 < V) (hr : r = U % V) : (a + 65536 * r) % V = (a + 65536 * U) % V ∧ (a + 65536 * r) / V + 65536 * (U / V) = (a + 65536 * U) / V := by
  have h1 := Nat.div_add_mod U V
  have h2 : a + 65536 * U = (a + 65536 * r) + V * (65536 * (U / V)) := by
    rw [hr]
    have : V * (65536 * (U / V)) = 65536 * (V * (U / V)) := by rw [Nat.mul_left_comm]
    omega
  rw [h2]
  exact ⟨by rw [Nat.add_mul_mod_self_left], by rw [Nat.add_mul_div_left _ _ hV]⟩
/- all digits of the quotient -/
theorem divide_loop {N : Nat} {u v : List Int} (hu : Dig u) (hv : Dig v) (hn : 2 ≤ v.length) (hul : v.length < u.length) (hl : u.length ≤ 1000000) (ht : 32768 ≤ ldg v (v.length - 1)) (htop : val (u.drop (u.length - v.length)) < val v) (hN : 2 ^ 64 ≤ N) :
    ∃ o, loopN (f_exact_divide_L2 N v) N (List.replicate (u.length - v.length) 0, u, ((u.length - v.length : Nat) : Int) - 1) = some o ∧ Dig o.1 ∧ o.1.length = u.length - v.length ∧ val o.1 = val u / val v ∧ Dig o.2 ∧ o.2.length = u.length ∧ val o.2 = val u % val v := by
  have hV0 : 0 < val v := by omega
  refine loopN_of (f := f_exact_divide_L2 N v) (fun s => ∃ j : Nat, j ≤ u.length - v.length ∧ s.2.2 = (j : Int) - 1 ∧ Dig s.1 ∧ s.1.length = u.length - v.length ∧ Dig s.2.1 ∧ s.2.1.length = u.length ∧ val (s.2.1.drop j) = val (u.drop j) % val v ∧ val (s.1.drop j) = val (u.drop j) / val v ∧ s.2.1.take j = u.take j) (fun s => (s.2.2 + 1).toNat) _ ?_ N _
    ⟨u.length - v.length, Nat.le_refl _, rfl, dig_rep _, by simp, hu, rfl, by rw [Nat.mod_eq_of_lt htop], by rw [Nat.div_eq_of_lt htop]; simp [val], rfl⟩ (by simp only []; omega)
  rintro ⟨q, x, jj⟩ ⟨j, hj, hs, hdq, hql, hdx, hxl, hmod, hdiv, htk⟩
  simp only at hs hdq hql hdx hxl hmod hdiv htk; subst hs
  unfold f_exact_divide_L2
  cases j with
  | zero =>
    refine .inr ⟨(q, x), ?_, hdq, hql, by simpa using hdiv, hdx, hxl, by simpa using hmod⟩
    simp
  | succ j =>
    have ej : ((j + 1 : Nat) : Int) - 1 = (j : Int) := by omega
    have hR : val (u.drop (j + 1)) % val v < val v := Nat.mod_lt _ hV0
    have hxj : ldg x j = ldg u j := by
      have h1 := congrArg (fun l => ldg l j) htk
      simpa [ldg, List.getElem?_take] using h1
    have hgj := ldg_lt hu j
    have hxd := val_drop x j
    rw [hxj, hmod] at hxd
    have hVn : val v < 65536 ^ v.length := val_lt hv
    have hxlt : val (x.drop j) < 65536 * val v := by
      have := Nat.mul_le_mul_left 65536 (show val (u.drop (j + 1)) % val v + 1 ≤ val v from hR)
      omega
    have hxlt2 : val (x.drop j) < 65536 ^ (v.length + 1) := by rw [Nat.pow_succ]; omega
    have hsl : ((x.drop j).take (v.length + 1)).length = v.length + 1 := by rw [List.length_take, List.length_drop]; omega
    obtain ⟨y, hy, hdy, hyl, hyv⟩ := digit_eq (N := N) (u := (x.drop j).take (v.length + 1)) (v := v) (dig_take (dig_drop hdx j) _) hv hn hsl (by omega) ht (by rw [val_take_full hxlt2]; exact hxlt) hN
    rw [val_take_full hxlt2] at hy hyv
    have hz := val_drop_zero hxlt2
    rw [List.drop_drop] at hz
    obtain ⟨sm, sd⟩ := step_divmod (a := ldg u j) hV0 (rfl : val (u.drop (j + 1)) % val v = _)
    rw [← hxd] at sm sd
    have hud := val_drop u j
    rw [← hud] at sm sd
    have hdx' : Dig (x.take j ++ y ++ x.drop (j + (v.length + 1))) := dig_app (dig_app (dig_take hdx _) hdy) (dig_drop hdx _)
    have hqd : val (x.drop j) / val v < 65536 := by rw [Nat.div_lt_iff_lt_mul hV0]; exact hxlt
    refine .inl ⟨(q.set j ((val (x.drop j) / val v : Nat) : Int), x.take j ++ y ++ x.drop (j + (v.length + 1)), (j : Int) - 1), ?_,
      ⟨j, by omega, rfl, dig_set hdq (Int.natCast_nonneg _) (Int.ofNat_lt.2 hqd), by simp [hql], hdx', ?_, ?_, ?_, ?_⟩, by simp only []; omega⟩
    · simp only [ej]
      have e1 : IntKind.i64.wrap (IntKind.i64.wrap ((j : Int) + (v.length : Int)) + 1) = ((j + (v.length + 1) : Nat) : Int) := by rw [w64i (n := (j : Int) + (v.length : Int)) (by omega) (by omega), w64i (by omega) (by omega)]; omega
      have hslc : slc x (j : Int) ((j + (v.length + 1) : Nat) : Int) = some ((x.take (j + (v.length + 1))).drop j) := by
        unfold slc
        rw [show (decide ((0 : Int) ≤ (j : Int)) && decide ((j : Int) ≤ ((j + (v.length + 1) : Nat) : Int)) && decide (((j + (v.length + 1) : Nat) : Int) ≤ (x.length : Int))) = true by simp only [Bool.and_eq_true, decide_eq_true_eq]; omega, cond_true, Int.toNat_natCast, Int.toNat_natCast]
      rw [cmp_geq, dT (by omega), cond_true, e1, hslc, Option.bind_some, Int.toNat_natCast, Int.toNat_natCast, show j + (v.length + 1) - j = v.length + 1 by omega, hy, Option.bind_some, idx_dg hdq (by omega), Option.bind_some, w64i (n := (j : Int) - 1) (by omega) (by omega)]
    · simp only [List.length_append, List.length_take, List.length_drop]; omega
    · have : (x.take j ++ y ++ x.drop (j + (v.length + 1))).drop j = y ++ x.drop (j + (v.length + 1)) := by
        rw [List.append_assoc, List.drop_left' (by rw [List.length_take]; omega)]
      rw [this, val_append, hz, Nat.mul_zero, Nat.add_zero, hyv, sm]
    · rw [val_drop, ldg_set_same (by omega), Int.toNat_natCast, drop_set_lt' (by omega), hdiv, sd]
    · rw [List.append_assoc, List.take_append_of_le_length (by rw [List.length_take]; omega), List.take_take, Nat.min_self]
      have := congrArg (List.take j) htk
      simpa [List.take_take] using this
/- the remainder is shifted back -/
theorem back_digit {A B Z k : Nat} (hk : k ≤ 15) : (A + 65536 * B + 65536 * (65536 * Z)) / 2 ^ k % 65536 = (A + 65536 * B) / 2 ^ k % 65536 := by
  have hsp := pow_split (show k ≤ 16 by omega)
  have h0 : 0 < 2 ^ k := Nat.pow_pos (by decide)
  have : A + 65536 * B + 65536 * (65536 * Z) = (A + 65536 * B) + 2 ^ k * (2 ^ (16 - k) * Z * 65536) := by
    have e : 65536 * (65536 * Z) = (2 ^ k * 2 ^ (16 - k)) * (65536 * Z) := by rw [← hsp]
    rw [e]
    congr 1
    rw [Nat.mul_assoc, Nat.mul_comm 65536 Z, ← Nat.mul_assoc (2 ^ (16 - k))]
  rw [this, Nat.add_mul_div_left _ _ h0, Nat.add_mul_mod_self_right]
theorem divide_back {N k : Nat} {q x v : List Int} (hx : Dig x) (hk : k ≤ 15) (hl : x.length ≤ 1000000) (hvl : v.length < x.length) (hN : 2 ^ 64 ≤ N) :
    ∃ o, loopN (f_exact_divide_L1 N (k : Int) v (q, x)) N (List.replicate v.length 0, 0) = some o ∧ Dig o ∧ o.length = v.length ∧ val o = val x / 2 ^ k % 65536 ^ v.length := by
  refine loopN_of (f := f_exact_divide_L1 N (k : Int) v (q, x)) (fun s => ∃ i : Nat, i ≤ v.length ∧ s.2 = (i : Int) ∧ Dig s.1 ∧ s.1.length = v.length ∧ val (s.1.take i) = val x / 2 ^ k % 65536 ^ i) (fun s => v.length - s.2.toNat) _ ?_ N _ ⟨0, by omega, rfl, dig_rep _, by simp, by simp [val, Nat.mod_one]⟩ (by simp only []; omega)
  rintro ⟨r, ii⟩ ⟨i, hi, hs, hd, hlen, hval⟩
  simp only at hs hd hlen hval; subst hs
  unfold f_exact_divide_L1
  by_cases hlt : i < v.length
  · have h1 := ldg_lt hx i
    have h2 := ldg_lt hx (i + 1)
    have hdg : (ldg x i + 65536 * ldg x (i + 1)) / 2 ^ k % 65536 = val x / 2 ^ k / 65536 ^ i % 65536 := by
      have hcm : val x / 2 ^ k / 65536 ^ i = val x / 65536 ^ i / 2 ^ k := by rw [Nat.div_div_eq_div_mul, Nat.div_div_eq_div_mul, Nat.mul_comm (2 ^ k)]
      rw [hcm]
      have h3 := val_cut x i
      have h4 : val (x.take i) < 65536 ^ i := Nat.lt_of_lt_of_le (val_lt (dig_take hx i)) (Nat.pow_le_pow_right (by decide) (by rw [List.length_take]; omega))
      have h5 : val x / 65536 ^ i = val (x.drop i) := by
        rw [h3, Nat.add_mul_div_left _ _ (Nat.pow_pos (by decide)), Nat.div_eq_of_lt h4, Nat.zero_add]
      rw [h5, val_drop x i, val_drop x (i + 1), Nat.mul_add, ← Nat.add_assoc, back_digit hk]
    refine .inl ⟨(r.set i (((ldg x i + 65536 * ldg x (i + 1)) / 2 ^ k % 65536 : Nat) : Int), ((i + 1 : Nat) : Int)), ?_, ⟨i + 1, by omega, rfl, dig_set hd (by omega) (by omega), by simp [hlen], ?_⟩, by simp; omega⟩
    · have hi1 : IntKind.i64.wrap ((i : Int) + 1) = ((i + 1 : Nat) : Int) := by rw [w64i (by omega) (by omega)]; omega
      have hsl : shlI .u32 ((ldg x (i + 1) : Nat) : Int) 16 = some ((65536 * ldg x (i + 1) : Nat) : Int) := shl16_32 (by omega)
      have hor : bitI .or .u32 ((ldg x i : Nat) : Int) ((65536 * ldg x (i + 1) : Nat) : Int) = ((65536 * ldg x (i + 1) + ldg x i : Nat) : Int) := or32' h1 (by omega)
      have hsr : shrI .u32 ((65536 * ldg x (i + 1) + ldg x i : Nat) : Int) (k : Int) = some (((65536 * ldg x (i + 1) + ldg x i) / 2 ^ k : Nat) : Int) := shr32k (by omega)
      simp (disch := omega) only [cmp_lss, dT, cond_true, idx_dg hx, idx_dg hd, Option.bind_some, u32i, hi1, hsl, hor, hsr, u16w, Int.toNat_natCast]
      rw [Nat.add_comm (65536 * ldg x (i + 1))]
      rfl
    · rw [val_take_succ, take_set_ge (Nat.le_refl i), ldg_set_same (by omega), Int.toNat_natCast, hval, hdg, Nat.pow_succ, Nat.mod_mul]
  · obtain rfl : i = v.length := by omega
    refine .inr ⟨r, ?_, hd, hlen, ?_⟩
    · simp (disch := omega) only [cmp_lss, dF, cond_false]
    · rw [List.take_of_length_le (by omega)] at hval; exact hval
theorem divide_eq {N m n : Nat} (hn0 : n ≠ 0) (hm : nl m ≤ 900000) (hn : nl n ≤ 900000) (hN : 2 ^ 64 ≤ N) : f_exact_divide N (limbs m) (limbs n) = some (limbs (m / n), limbs (m % n)) := by
  by_cases hone : nl n = 1
  · exact divide_one hn0 (by have := nl_lt n; rw [hone] at this; omega) (by rw [nl_eq]; omega) hN
  have hpos := nl_pos hn0
  unfold f_exact_divide
  obtain ⟨c, hc, hclt, _⟩ := compare_eq (N := N) (a := m) (b := n) (by rw [nl_eq]; omega) (by rw [nl_eq]; omega) hN
  rw [hc, Option.bind_some, cmp_lss]
  by_cases hlt : m < n
  · rw [dT (hclt.2 hlt), cond_true, clone_eq (by rw [nl_eq]; unfold lim; omega), Option.bind_some, Nat.div_eq_of_lt hlt, Nat.mod_eq_of_lt hlt, limbs_zero]
  · rw [dF (fun h => hlt (hclt.1 h)), cond_false, cmp_eql, dF (by rw [nl_eq]; omega), cond_false]
    have hmn : nl n ≤ nl m := nl_mono (by omega)
    have hda := dig_limbs m
    have hdb := dig_limbs n
    have htop := ldg_last (n := n) (fun h => hn0 (limbs_nil.1 h))
    rw [nl_eq] at htop
    have htl := ldg_lt hdb (nl n - 1)
    obtain ⟨k, hk, hlz, hk1, hk2⟩ := lz16 (N := N) htop htl
    have e1 : IntKind.i64.wrap (((limbs n).length : Int) - 1) = ((nl n - 1 : Nat) : Int) := by rw [nl_eq, w64i (by omega) (by omega)]; omega
    obtain ⟨x, hx, hdx, hxl, hxv⟩ := shifted_eq (N := N) (k := k) hda hk (by rw [nl_eq]; omega) hN
    obtain ⟨y, hy, hdy, hyl, hyv⟩ := shifted_eq (N := N) (k := k) hdb hk (by rw [nl_eq]; omega) hN
    rw [nl_eq] at hxl hyl
    rw [val_limbs] at hxv hyv
    have h2k : 0 < 2 ^ k := Nat.pow_pos (by decide)
    have h15 : 2 ^ k ≤ 32768 := Nat.pow_le_pow_right (by decide) hk
    -- the divisor
    have hnb : ldg (limbs n) (nl n - 1) * 65536 ^ (nl n - 1) ≤ n ∧ n < (ldg (limbs n) (nl n - 1) + 1) * 65536 ^ (nl n - 1) := by
      have h1 := val_take_succ (limbs n) (nl n - 1)
      rw [List.take_of_length_le (by rw [nl_eq]; omega), val_limbs] at h1
      have h2 := val_lt (dig_take hdb (nl n - 1))
      rw [List.length_take, nl_eq, Nat.min_eq_left (by omega)] at h2
      constructor
      · have e := Nat.mul_comm (ldg (limbs n) (nl n - 1)) (65536 ^ (nl n - 1)); omega
      · have e : (ldg (limbs n) (nl n - 1) + 1) * 65536 ^ (nl n - 1) = 65536 ^ (nl n - 1) * ldg (limbs n) (nl n - 1) + 65536 ^ (nl n - 1) := by rw [Nat.add_mul, Nat.one_mul, Nat.mul_comm]
        omega
    have hPn : 65536 ^ nl n = 65536 * 65536 ^ (nl n - 1) := by rw [← Nat.pow_succ']; congr 1; omega
    have hyb : val y < 65536 ^ nl n := by
      rw [hyv, hPn]
      have h1 := Nat.mul_lt_mul_of_pos_right hnb.2 h2k
      have h2 := Nat.mul_le_mul_right (65536 ^ (nl n - 1)) hk2
      have e : (ldg (limbs n) (nl n - 1) + 1) * 65536 ^ (nl n - 1) * 2 ^ k = (ldg (limbs n) (nl n - 1) + 1) * 2 ^ k * 65536 ^ (nl n - 1) := by rw [Nat.mul_right_comm]
      omega
    have hya : 32768 * 65536 ^ (nl n - 1) ≤ val y := by
      rw [hyv]
      have h1 := Nat.mul_le_mul_right (2 ^ k) hnb.1
      have h2 := Nat.mul_le_mul_right (65536 ^ (nl n - 1)) hk1
      have e : ldg (limbs n) (nl n - 1) * 65536 ^ (nl n - 1) * 2 ^ k = ldg (limbs n) (nl n - 1) * 2 ^ k * 65536 ^ (nl n - 1) := by rw [Nat.mul_right_comm]
      omega
    have hvv := val_take_full hyb
    have hvl : (y.take (nl n)).length = nl n := by rw [List.length_take]; omega
    have hdv := dig_take hdy (nl n)
    have hvt : 32768 ≤ ldg (y.take (nl n)) (nl n - 1) := by
      have h1 := val_take_succ (y.take (nl n)) (nl n - 1)
      rw [List.take_of_length_le (by omega), hvv] at h1
      have h2 := val_lt (dig_take hdv (nl n - 1))
      rw [List.length_take, hvl, Nat.min_eq_left (by omega)] at h2
      rcases Nat.lt_or_ge (ldg (y.take (nl n)) (nl n - 1)) 32768 with h | h
      · exfalso
        have h3 := Nat.mul_le_mul_left (65536 ^ (nl n - 1)) (show ldg (y.take (nl n)) (nl n - 1) ≤ 32767 by omega)
        omega
      · exact h
    -- the first digits of the dividend are less
    have htopx : val (x.drop (nl m + 1 - nl n)) < val (y.take (nl n)) := by
      rw [hvv]
      have h1 := val_cut x (nl m + 1 - nl n)
      have h2 : val x < 65536 ^ nl m * 2 ^ k := by rw [hxv]; exact Nat.mul_lt_mul_of_pos_right (nl_lt m) h2k
      have h3 : 65536 ^ nl m = 65536 ^ (nl m + 1 - nl n) * 65536 ^ (nl n - 1) := by rw [← Nat.pow_add]; congr 1; omega
      rcases Nat.lt_or_ge (val (x.drop (nl m + 1 - nl n))) (val y) with h | h
      · exact h
      · exfalso
        have h4 : 65536 ^ (nl m + 1 - nl n) * (32768 * 65536 ^ (nl n - 1)) ≤ 65536 ^ (nl m + 1 - nl n) * val (x.drop (nl m + 1 - nl n)) := Nat.mul_le_mul_left _ (by omega)
        have h5 : 65536 ^ nl m * 2 ^ k ≤ 65536 ^ nl m * 32768 := Nat.mul_le_mul_left _ h15
        have h6 : 65536 ^ (nl m + 1 - nl n) * (32768 * 65536 ^ (nl n - 1)) = 65536 ^ nl m * 32768 := by rw [h3]; grind
        omega
    obtain ⟨o, ho, hdq, hql, hqv, hdr, hrl, hrv⟩ := divide_loop (N := N) hdx hdv (by omega) (by omega) (by omega) (by rw [hvl]; exact hvt) (by rw [hvl, hxl]; exact htopx) hN
    rw [hvl, hxl] at ho hql
    obtain ⟨r, hr, hdrr, hrrl, hrrv⟩ := divide_back (N := N) (k := k) (q := o.1) (x := o.2) (v := y.take (nl n)) hdr hk (by omega) (by omega) hN
    rw [hvl] at hr hrrl hrrv
    have hslc : slc y 0 (((limbs n).length : Nat) : Int) = some (y.take (nl n)) := by rw [nl_eq]; exact slc_take (by omega)
    have e2 : IntKind.i64.wrap ((x.length : Int) - ((y.take (nl n)).length : Int)) = ((nl m + 1 - nl n : Nat) : Int) := by rw [hvl, w64i (by omega) (by omega)]; omega
    rw [e1, idx_dg hdb (by rw [nl_eq]; omega), Option.bind_some, hlz, Option.bind_some, hx, Option.bind_some, hy, Option.bind_some, hslc, Option.bind_some, e2, mk_rep (by omega) (by omega), Option.bind_some, Int.toNat_natCast, w64i (n := ((nl m + 1 - nl n : Nat) : Int) - 1) (by omega) (by omega)]
    rw [ho, Option.bind_some, hvl, mk_rep (by omega) (by omega), Option.bind_some, Int.toNat_natCast]
    rw [show o = (o.1, o.2) from rfl, hr, Option.bind_some]
    have hq : val o.1 = m / n := by rw [hqv, hvv, hxv, hyv]; exact Nat.mul_div_mul_right _ _ h2k
    have hrem : val r = m % n := by
      rw [hrrv, hrv, hvv, hxv, hyv, Nat.mul_mod_mul_right, Nat.mul_div_cancel _ h2k]
      exact Nat.mod_eq_of_lt (Nat.lt_trans (Nat.mod_lt _ (by omega)) (nl_lt n))
    rw [limbs_of hdq hq (by omega) (by omega), Option.bind_some, limbs_of hdrr hrem (by omega) (by omega), Option.bind_some]

/- the greatest common divisor of numbers of any size -/
def gcdM (a b : Nat) : Nat := (if a < b then 1 else 0) + (if a * b = 0 then 0 else Nat.log2 (a * b) + 1)
theorem log2_half {x y : Nat} (hx : x ≠ 0) (h : 2 * x ≤ y) : Nat.log2 x + 1 ≤ Nat.log2 y := by
  rw [Nat.le_log2 (by omega), Nat.pow_succ]
  have := Nat.log2_self_le hx
  omega
theorem mod_half {a b : Nat} (hb : b ≠ 0) (h : b ≤ a) : 2 * (a % b) ≤ a := by
  have h1 := Nat.mod_lt a (Nat.pos_of_ne_zero hb)
  have h2 := Nat.div_add_mod a b
  have h3 : 1 ≤ a / b := (Nat.le_div_iff_mul_le (Nat.pos_of_ne_zero hb)).2 (by omega)
  have h4 := Nat.mul_le_mul_left b h3
  omega
theorem gcdM_lt {a b : Nat} (hb : b ≠ 0) : gcdM b (a % b) < gcdM a b := by
  have hr := Nat.mod_lt a (Nat.pos_of_ne_zero hb)
  unfold gcdM
  rw [if_neg (by omega)]
  by_cases hab : a < b
  · rw [if_pos hab, Nat.mod_eq_of_lt hab, Nat.mul_comm b a]; omega
  · rw [if_neg hab]
    have h0 : a * b ≠ 0 := Nat.mul_ne_zero (by omega) hb
    rw [if_neg h0]
    by_cases h1 : b * (a % b) = 0
    · rw [if_pos h1]; omega
    · rw [if_neg h1]
      have h2 : 2 * (b * (a % b)) ≤ a * b := by
        have := Nat.mul_le_mul_left b (mod_half hb (show b ≤ a by omega))
        rw [Nat.mul_left_comm, Nat.mul_comm b a] at this; omega
      have := log2_half h1 h2
      omega
theorem gcdM_le {a b : Nat} (ha : nl a ≤ 900000) (hb : nl b ≤ 900000) : gcdM a b ≤ 30000000 := by
  unfold gcdM
  have h1 : (if a < b then 1 else 0) ≤ 1 := by split <;> omega
  have h2 : (if a * b = 0 then 0 else Nat.log2 (a * b) + 1) ≤ 28800001 := by
    split
    · omega
    · rename_i h
      have : Nat.log2 (a * b) < 16 * (nl a + nl b) := by
        rw [Nat.log2_lt h]
        have := Nat.mul_lt_mul'' (nl_lt a) (nl_lt b)
        rw [← Nat.pow_add] at this
        rwa [show (65536 : Nat) = 2 ^ 16 from rfl, ← Nat.pow_mul] at this
      omega
  omega
theorem word_none {N : Nat} {l : List Int} (hl : 4 < l.length) : f_exact_word N l = some (0, false) := by
  unfold f_exact_word
  rw [cmp_gtr, dT (by omega), cond_true]
theorem common_eq2 {N a b : Nat} (ha : nl a ≤ 900000) (hb : nl b ≤ 900000) (hN : 2 ^ 64 ≤ N) : f_exact_common N (limbs a) (limbs b) = some (limbs (Nat.gcd a b)) := by
  unfold f_exact_common
  obtain ⟨o, ho, hp⟩ := loopN_of (f := f_exact_common_L2 N) (fun s => ∃ x y : Nat, s = (limbs x, limbs y) ∧ nl x ≤ 900000 ∧ nl y ≤ 900000 ∧ Nat.gcd x y = Nat.gcd a b) (fun s => gcdM (val s.1) (val s.2)) (fun o => o = .inl (limbs (Nat.gcd a b)) ∨ o = .inr (limbs (Nat.gcd a b))) (by
    rintro s ⟨x, y, rfl, hx, hy, hg⟩
    unfold f_exact_common_L2
    by_cases hy0 : y = 0
    · subst hy0
      rw [Nat.gcd_zero_right] at hg
      subst hg
      refine .inr ⟨.inl (limbs (Nat.gcd a b)), ?_, .inl rfl⟩
      rw [limbs_zero]; simp
    · have hyp := nl_pos hy0
      have hd : f_exact_divide N (limbs x) (limbs y) = some (limbs (x / y), limbs (x % y)) := divide_eq hy0 hx hy hN
      have hml : nl (x % y) ≤ nl y := nl_mono (Nat.le_of_lt (Nat.mod_lt _ (Nat.pos_of_ne_zero hy0)))
      have hgn : Nat.gcd y (x % y) = Nat.gcd a b := by rw [← hg, Nat.gcd_comm y, ← Nat.gcd_rec, Nat.gcd_comm]
      have hnext : some (Sum.inl (limbs y, limbs (x % y))) = (some (.inl (limbs y, limbs (x % y))) : Option ((List Int × List Int) ⊕ (List Int ⊕ List Int))) → ((∃ s', (some (Sum.inl (limbs y, limbs (x % y))) : Option ((List Int × List Int) ⊕ (List Int ⊕ List Int))) = some (.inl s') ∧ (∃ x' y' : Nat, s' = (limbs x', limbs y') ∧ nl x' ≤ 900000 ∧ nl y' ≤ 900000 ∧ Nat.gcd x' y' = Nat.gcd a b) ∧ gcdM (val s'.1) (val s'.2) < gcdM (val (limbs x, limbs y).1) (val (limbs x, limbs y).2))) := fun _ =>
        ⟨_, rfl, ⟨y, x % y, rfl, hy, by omega, hgn⟩, by simp only [val_limbs]; exact gcdM_lt hy0⟩
      simp only [cmp_gtr, nl_eq]
      rw [dT (show (0 : Int) < (nl y : Int) by omega), cond_true]
      by_cases h4 : nl x ≤ 4
      · by_cases h5 : nl y ≤ 4
        · have hxb : x < 18446744073709551616 := Nat.lt_of_lt_of_le (nl_lt x) (by have := Nat.pow_le_pow_right (n := 65536) (by decide) h4; simpa using this)
          have hyb : y < 18446744073709551616 := Nat.lt_of_lt_of_le (nl_lt y) (by have := Nat.pow_le_pow_right (n := 65536) (by decide) h5; simpa using this)
          have hgb : Nat.gcd x y ≤ y := Nat.gcd_le_right x (by omega)
          rw [word_eq (dig_limbs x) h4 (by omega), Option.bind_some, word_eq (dig_limbs y) h5 (by omega), Option.bind_some]
          simp only [Bool.and_true, cond_true, val_limbs]
          rw [gcd_loop (f_exact_common_L1 N) (fun s => rfl) (by omega), Option.bind_some, natural_eq (by omega) (by omega), Option.bind_some, hg]
          exact .inr ⟨_, rfl, .inr rfl⟩
        · rw [word_eq (dig_limbs x) h4 (by omega), Option.bind_some, word_none (by rw [nl_eq]; omega), Option.bind_some]
          simp only [Bool.and_false, cond_false]
          rw [hd, Option.bind_some]
          exact .inl (hnext rfl)
      · rw [word_none (by rw [nl_eq]; omega), Option.bind_some]
        cases hw : f_exact_word N (limbs y) with
        | none =>
          by_cases h5 : nl y ≤ 4
          · rw [word_eq (dig_limbs y) h5 (by omega)] at hw; cases hw
          · rw [word_none (by rw [nl_eq]; omega)] at hw; cases hw
        | some w =>
          rw [Option.bind_some]
          simp only [Bool.false_and, cond_false]
          rw [hd, Option.bind_some]
          exact .inl (hnext rfl)) N _ ⟨a, b, rfl, ha, hb, rfl⟩ (by simp only [val_limbs]; have := gcdM_le ha hb; omega)
  rw [ho, Option.bind_some]
  rcases hp with rfl | rfl <;> rfl
end Go.KB
