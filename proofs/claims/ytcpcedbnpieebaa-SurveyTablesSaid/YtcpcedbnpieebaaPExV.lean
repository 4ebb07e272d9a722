/- Plain laws of the exact package: quotient and remainder of natural numbers. No condition. -/
import Derived.Test.YtcpcedbnpieebaaPExD
namespace Go.KB
set_option linter.unusedVariables false

theorem digit_eq {N : Nat} {u v : List Int} (hu : Dig u) (hv : Dig v) (hn : 2 ≤ v.length) (hul : u.length = v.length + 1) (hn' : v.length ≤ 1000000) (ht : 32768 ≤ ldg v (v.length - 1)) (hlt : val u < 65536 * val v) (hN : 2 ^ 64 ≤ N) :
    ∃ x, f_exact_digit N u v = some (x, ((val u / val v : Nat) : Int)) ∧ Dig x ∧ x.length = u.length ∧ val x = val u % val v := by
  have hV0 : 0 < val v := by
    rcases Nat.eq_zero_or_pos (val v) with h | h
    · rw [h] at hlt; omega
    · exact h
  have hQ : val u / val v < 65536 := by rw [Nat.div_lt_iff_lt_mul hV0]; exact hlt
  have hQ2 : val u / val v * val v ≤ val u := Nat.div_mul_le_self _ _
  generalize hn0 : v.length = n at *
  obtain ⟨n, rfl⟩ : ∃ m, n = m + 2 := ⟨n - 2, by omega⟩
  have hvt := ldg_lt hv (n + 1)
  have hv2 := ldg_lt hv n
  have hun := ldg_lt hu (n + 2)
  have hu1 := ldg_lt hu (n + 1)
  have hu2 := ldg_lt hu n
  have hP : val (u.take n) < 65536 ^ n := by have := val_lt (dig_take hu n); rwa [List.length_take, Nat.min_eq_left (by omega)] at this
  have hQl : val (v.take n) < 65536 ^ n := by have := val_lt (dig_take hv n); rwa [List.length_take, Nat.min_eq_left (by omega)] at this
  have ev : val v = (ldg v (n + 1) * 65536 + ldg v n) * 65536 ^ n + val (v.take n) := by
    have h1 := val_take_succ v (n + 1)
    have h2 := val_take_succ v n
    rw [List.take_of_length_le (by omega)] at h1
    rw [h1, h2, Nat.pow_succ]; grind
  have eu : val u = ((ldg u (n + 2) * 65536 + ldg u (n + 1)) * 65536 + ldg u n) * 65536 ^ n + val (u.take n) := by
    have h0 := val_take_succ u (n + 2)
    have h1 := val_take_succ u (n + 1)
    have h2 := val_take_succ u n
    rw [List.take_of_length_le (by omega)] at h0
    rw [h0, h1, h2, Nat.pow_succ, Nat.pow_succ]; grind
  have hQ3 := hQ2
  have hlt3 := hlt
  generalize hQv : val u / val v = Q at *
  generalize hPP : 65536 ^ n = P at *
  have htop : ldg u (n + 2) * 65536 + ldg u (n + 1) < ldg v (n + 1) * 65536 + 65536 := by
    rw [eu, ev] at hlt3
    rcases Nat.lt_or_ge (ldg u (n + 2) * 65536 + ldg u (n + 1)) (ldg v (n + 1) * 65536 + 65536) with h | h
    · exact h
    · exfalso
      have h1 := Nat.mul_le_mul_right (65536 * P) h
      have h2 : ldg v n * P + P ≤ 65536 * P := by rw [← Nat.succ_mul]; exact Nat.mul_le_mul_right _ hv2
      have e1 : 65536 * ((ldg v (n + 1) * 65536 + ldg v n) * P + val (v.take n)) = (ldg v (n + 1) * 65536) * (65536 * P) + 65536 * (ldg v n * P + val (v.take n)) := by grind
      have e2 : ((ldg u (n + 2) * 65536 + ldg u (n + 1)) * 65536 + ldg u n) * P + val (u.take n) = (ldg u (n + 2) * 65536 + ldg u (n + 1)) * (65536 * P) + (ldg u n * P + val (u.take n)) := by grind
      have e3 : (ldg v (n + 1) * 65536 + 65536) * (65536 * P) = (ldg v (n + 1) * 65536) * (65536 * P) + 65536 * (65536 * P) := by grind
      omega
  rw [ev, eu] at hQ3
  obtain ⟨o1, ho1, q, rfl, hq, hQq, hqle⟩ := digit_est (N := N) (n := n + 2) (top := ldg u (n + 2) * 65536 + ldg u (n + 1)) (u2 := ldg u n) (vt := ldg v (n + 1)) (v2 := ldg v n) hu hv (by omega) hn0 (by omega) (by omega) rfl rfl rfl (by simpa using ht) hP hQl hQ hQ3 htop hN
  rw [← ev, ← eu] at hqle
  obtain ⟨o2, ho2, hd2, hl2, b, hb, hob, hv2'⟩ := digit_sub (N := N) (q := q) hu hv (by omega) (by omega) hq hN
  rw [hn0] at hv2'
  have hlt2 : val o2.1 < 65536 ^ (n + 2 + 1) := by have := val_lt hd2; rwa [hl2, hul] at this
  -- the beginning
  have ht0 : ldg v (n + 1) ≠ 0 := by have : ldg v (n + 1) = ldg v (n + 2 - 1) := rfl; omega
  have hstart : f_exact_digit N u v = (loopN (f_exact_digit_L3 N u v) N ((((ldg u (n + 2) * 65536 + ldg u (n + 1)) / ldg v (n + 1) : Nat) : Int), (((ldg u (n + 2) * 65536 + ldg u (n + 1)) % ldg v (n + 1) : Nat) : Int))).bind fun o14 => (loopN (f_exact_digit_L2 N v o14) N (u, 0, 0, 0)).bind fun o26 => bif (cmpI .lss o26.2 0) then ((loopN (f_exact_digit_L1 N v) N (o26.1, 0, 0)).bind fun o34 => (idx o34.1 (List.length v : Int)).bind fun v36 => (idx o34.1 (List.length v : Int)).bind fun v37 => some ((List.set o34.1 (Int.toNat (List.length v : Int)) (IntKind.u16.wrap (v36 + (IntKind.u16.wrap o34.2)))), (IntKind.u16.wrap (IntKind.u64.wrap (o14 - 1))))) else (some (o26.1, (IntKind.u16.wrap o14))) := by
    unfold f_exact_digit
    have hn1 : IntKind.i64.wrap (((n + 2 : Nat) : Int) - 1) = ((n + 1 : Nat) : Int) := by rw [w64i (by omega) (by omega)]; omega
    have hsh : shlI .u64 ((ldg u (n + 2) : Nat) : Int) 16 = some ((65536 * ldg u (n + 2) : Nat) : Int) := shl16_64 (by omega)
    have hor : bitI .or .u64 ((65536 * ldg u (n + 2) : Nat) : Int) ((ldg u (n + 1) : Nat) : Int) = ((65536 * ldg u (n + 2) + ldg u (n + 1) : Nat) : Int) := or64 hu1 (by omega)
    rw [hn0]
    simp (disch := omega) only [idx_dg hu, idx_dg hv, Option.bind_some, u64i, hsh, hn1, hor, quo64 ht0, remN ht0]
    rw [Nat.mul_comm 65536 (ldg u (n + 2))]
  rw [hstart, ho1, Option.bind_some, ho2, Option.bind_some, hob]
  rcases Nat.lt_or_ge b 1 with h0 | h1
  · obtain rfl : b = 0 := by omega
    have hqQ : q = Q := by
      have h1 : q ≤ Q := by rw [← hQv, Nat.le_div_iff_mul_le hV0]; omega
      omega
    subst hqQ
    refine ⟨o2.1, ?_, hd2, hl2, ?_⟩
    · rw [show cmpI .lss (-((0 : Nat) : Int)) 0 = false from rfl, cond_false, u16w, show ((q : Nat) : Int) % 65536 = q by omega]
    · have h2 := Nat.mod_add_div (val u) (val v)
      rw [hQv, Nat.mul_comm] at h2
      omega
  · obtain rfl : b = 1 := by omega
    have hqQ : q = Q + 1 := by
      have h1 : ¬ q ≤ Q := fun h => by
        have := Nat.mul_le_mul_right (val v) h
        omega
      have h2 : q - 1 ≤ Q := by
        rw [← hQv, Nat.le_div_iff_mul_le hV0, Nat.sub_mul]; omega
      omega
    subst hqQ
    obtain ⟨o3, ho3, hd3, hl3, hg3, c, hc, hoc, hv3⟩ := digit_back (N := N) hd2 hv (by omega) (by omega) hN
    rw [hn0] at hg3 hv3
    have hw := ldg_lt hd2 (n + 2)
    have hR : val u % val v < val v := Nat.mod_lt _ hV0
    have hVP : val v < 65536 ^ (n + 2) := by have := val_lt hv; rwa [hn0] at this
    have h2 := Nat.mod_add_div (val u) (val v)
    rw [hQv, Nat.mul_comm] at h2
    have hcut := val_take_succ o2.1 (n + 2)
    rw [List.take_of_length_le (by omega)] at hcut
    have htk : val (o3.1.take (n + 2)) < 65536 ^ (n + 2) := by have := val_lt (dig_take hd3 (n + 2)); rwa [List.length_take, Nat.min_eq_left (by omega)] at this
    rw [Nat.pow_succ] at hv2'
    generalize hR0 : val u % val v = R at *
    generalize hT0 : val (o3.1.take (n + 2)) = T at *
    generalize 65536 ^ (n + 2) = M at *
    have hsum : T + M * (c + ldg o2.1 (n + 2)) = M * 65536 + R := by
      have e1 : M * (c + ldg o2.1 (n + 2)) = M * c + M * ldg o2.1 (n + 2) := Nat.mul_add _ _ _
      have e2 : (Q + 1) * val v = Q * val v + val v := by rw [Nat.add_mul, Nat.one_mul]
      omega
    have hcw : c + ldg o2.1 (n + 2) = 65536 := by
      rcases Nat.lt_trichotomy (c + ldg o2.1 (n + 2)) 65536 with h | h | h
      · exfalso
        have h3 : M * (c + ldg o2.1 (n + 2)) ≤ M * 65535 := Nat.mul_le_mul_left _ (by omega)
        omega
      · exact h
      · exfalso
        have h3 : M * 65537 ≤ M * (c + ldg o2.1 (n + 2)) := Nat.mul_le_mul_left _ (by omega)
        omega
    rw [hcw] at hsum
    refine ⟨o3.1.set (n + 2) 0, ?_, dig_set hd3 (by omega) (by omega), by rw [List.length_set]; omega, ?_⟩
    · have hi3 : idx o3.1 ((n + 2 : Nat) : Int) = some ((ldg o2.1 (n + 2) : Nat) : Int) := by rw [idx_dg hd3 (by omega), hg3]
      rw [show cmpI .lss (-((1 : Nat) : Int)) 0 = true from rfl, cond_true, ho3, Option.bind_some, hn0, hi3, Option.bind_some, Option.bind_some, hoc, u16w, u16w, u16w, u64i (by omega) (by omega), Int.toNat_natCast]
      rw [show (((ldg o2.1 (n + 2) : Nat) : Int) + (c : Int) % 65536) % 65536 = 0 by omega, show ((((Q + 1 : Nat) : Int) - 1) % 65536) = (Q : Int) by omega]
    · have h1 := val_take_succ (o3.1.set (n + 2) 0) (n + 2)
      rw [List.take_of_length_le (by rw [List.length_set]; omega), take_set_ge (Nat.le_refl _), ldg_set_same (by omega), hT0] at h1
      simp at h1
      omega

/- shifts -/
theorem or_mul_pow (k t a : Nat) (ha : a < 2 ^ k) : a ||| 2 ^ k * t = 2 ^ k * t + a := by
  rw [Nat.or_comm]
  have := Nat.shiftLeft_add_eq_or_of_lt ha t
  rw [Nat.shiftLeft_eq, Nat.mul_comm t] at this
  exact this.symm
theorem or16 {k t a : Nat} (ha : a < 2 ^ k) (h : 2 ^ k * t + a < 65536) : bitI .or .u16 (a : Int) ((2 ^ k * t : Nat) : Int) = ((2 ^ k * t + a : Nat) : Int) := by
  unfold bitI
  simp only []
  have e : (BitVec.ofInt IntKind.u16.bits (a : Int) ||| BitVec.ofInt IntKind.u16.bits ((2 ^ k * t : Nat) : Int)).toNat = 2 ^ k * t + a := by
    rw [BitVec.ofInt_natCast, BitVec.ofInt_natCast, BitVec.toNat_or, BitVec.toNat_ofNat, BitVec.toNat_ofNat]
    show a % 2 ^ 16 ||| (2 ^ k * t) % 2 ^ 16 = _
    rw [Nat.mod_eq_of_lt (by omega), Nat.mod_eq_of_lt (by omega), or_mul_pow k t a ha]
  rw [e, u16w]; omega
theorem or32' {a d : Nat} (hd : d < 65536) (h : 65536 * a + d < 4294967296) : bitI .or .u32 ((d : Nat) : Int) ((65536 * a : Nat) : Int) = ((65536 * a + d : Nat) : Int) := by
  unfold bitI
  simp only []
  have e : (BitVec.ofInt IntKind.u32.bits ((d : Nat) : Int) ||| BitVec.ofInt IntKind.u32.bits ((65536 * a : Nat) : Int)).toNat = 65536 * a + d := by
    rw [BitVec.ofInt_natCast, BitVec.ofInt_natCast, BitVec.toNat_or, BitVec.toNat_ofNat, BitVec.toNat_ofNat]
    show d % 2 ^ 32 ||| (65536 * a) % 2 ^ 32 = _
    rw [Nat.mod_eq_of_lt (by omega), Nat.mod_eq_of_lt (by omega), Nat.or_comm, or_mul a d hd]
  rw [e, IntKind.wrap_u32]; omega
theorem shl32k {x k : Nat} (hk : k ≤ 16) (h : x * 2 ^ k < 4294967296) : shlI .u32 (x : Int) (k : Int) = some ((x * 2 ^ k : Nat) : Int) := by
  unfold shlI
  rw [if_neg (by omega), show min (Int.toNat (k : Int)) IntKind.u32.bits = k by rw [Int.toNat_natCast]; show min k 32 = k; omega]
  rw [show (x : Int) * 2 ^ k = ((x * 2 ^ k : Nat) : Int) by simp, u32n h]
theorem shr32k {x k : Nat} (hk : k ≤ 16) : shrI .u32 (x : Int) (k : Int) = some ((x / 2 ^ k : Nat) : Int) := by
  unfold shrI
  rw [if_neg (by omega), show min (Int.toNat (k : Int)) IntKind.u32.bits = k by rw [Int.toNat_natCast]; show min k 32 = k; omega]
  rw [show ((2 : Int) ^ k) = ((2 ^ k : Nat) : Int) by simp, Int.fdiv_eq_ediv_of_nonneg _ (Int.natCast_nonneg _)]
  rfl
theorem pow_split {k : Nat} (hk : k ≤ 16) : (65536 : Nat) = 2 ^ k * 2 ^ (16 - k) := by rw [← Nat.pow_add, show k + (16 - k) = 16 by omega]
theorem shifted_eq {N k : Nat} {a : List Int} (ha : Dig a) (hk : k ≤ 15) (hl : a.length ≤ 1000000) (hN : 2 ^ 64 ≤ N) : ∃ x, f_exact_shifted N a (k : Int) = some x ∧ Dig x ∧ x.length = a.length + 1 ∧ val x = val a * 2 ^ k := by
  unfold f_exact_shifted
  have h15 : 2 ^ k ≤ 32768 := Nat.pow_le_pow_right (by decide) hk
  have hk0 : 0 < 2 ^ k := Nat.pow_pos (by decide)
  have hsp := pow_split (show k ≤ 16 by omega)
  rw [w64i (by omega) (by omega), mk_rep (by omega) (by omega), Option.bind_some, show ((a.length : Int) + 1).toNat = a.length + 1 by omega]
  obtain ⟨o, ho, hp⟩ := loopN_of (f := f_exact_shifted_L1 N a (k : Int)) (fun s => ∃ i : Nat, i ≤ a.length ∧ s.2 = (i : Int) ∧ Dig s.1 ∧ s.1.length = a.length + 1 ∧ ldg s.1 i < 2 ^ k ∧ val (s.1.take (i + 1)) = val (a.take i) * 2 ^ k) (fun s => a.length - s.2.toNat)
    (fun o => Dig o ∧ o.length = a.length + 1 ∧ val o = val a * 2 ^ k) (by
    rintro ⟨x, ii⟩ ⟨i, hi, hs, hd, hlen, hg, hv⟩
    simp only at hs hd hlen hg hv; subst hs
    unfold f_exact_shifted_L1
    by_cases hlt : i < a.length
    · have hx := ldg_lt ha i
      have hw : ldg a i * 2 ^ k < 65536 * 2 ^ k := Nat.mul_lt_mul_of_pos_right hx hk0
      have hmod : (ldg a i * 2 ^ k) % 65536 = 2 ^ k * (ldg a i % 2 ^ (16 - k)) := by
        conv => lhs; rw [hsp, Nat.mul_comm (ldg a i)]
        exact Nat.mul_mod_mul_left _ _ _
      have hdiv : ldg a i * 2 ^ k / 65536 < 2 ^ k := by rw [Nat.div_lt_iff_lt_mul (by omega)]; omega
      have hlt2 : 2 ^ k * (ldg a i % 2 ^ (16 - k)) + ldg x i < 65536 := by
        have h1 : ldg a i % 2 ^ (16 - k) + 1 ≤ 2 ^ (16 - k) := Nat.mod_lt _ (Nat.pow_pos (by decide))
        have h2 := Nat.mul_le_mul_left (2 ^ k) h1
        rw [← hsp, Nat.mul_add] at h2
        omega
      have hmod2 : IntKind.u16.wrap ((ldg a i * 2 ^ k : Nat) : Int) = ((2 ^ k * (ldg a i % 2 ^ (16 - k)) : Nat) : Int) := by rw [u16w, ← hmod, Int.natCast_emod]; rfl
      have hd1 : Dig (x.set i ((2 ^ k * (ldg a i % 2 ^ (16 - k)) + ldg x i : Nat) : Int)) := dig_set hd (by omega) (by omega)
      refine .inl ⟨((x.set i ((2 ^ k * (ldg a i % 2 ^ (16 - k)) + ldg x i : Nat) : Int)).set (i + 1) ((ldg a i * 2 ^ k / 65536 : Nat) : Int), ((i + 1 : Nat) : Int)), ?_, ⟨i + 1, by omega, rfl, dig_set hd1 (by omega) (by omega), by simp [hlen], ?_, ?_⟩, by simp; omega⟩
      · have hi1 : IntKind.i64.wrap ((i : Int) + 1) = ((i + 1 : Nat) : Int) := by rw [w64i (by omega) (by omega)]; omega
        have hix : idx (x.set i ((2 ^ k * (ldg a i % 2 ^ (16 - k)) + ldg x i : Nat) : Int)) ((i + 1 : Nat) : Int) = some ((ldg (x.set i ((2 ^ k * (ldg a i % 2 ^ (16 - k)) + ldg x i : Nat) : Int)) (i + 1) : Nat) : Int) := idx_dg hd1 (by simp; omega)
        have hshr : shrI .u32 ((ldg a i * 2 ^ k : Nat) : Int) 16 = some ((ldg a i * 2 ^ k / 65536 : Nat) : Int) := by rw [shr16i (by decide), Int.natCast_ediv]; rfl
        have hsl : shlI .u32 ((ldg a i : Nat) : Int) (k : Int) = some ((ldg a i * 2 ^ k : Nat) : Int) := shl32k (by omega) (by omega)
        simp (disch := omega) only [cmp_lss, dT, cond_true, idx_dg ha, idx_dg hd, Option.bind_some, u32i, hsl, hmod2, or16 hg hlt2, hshr, hi1, Int.toNat_natCast, hix]
        rw [show IntKind.u16.wrap ((ldg a i * 2 ^ k / 65536 : Nat) : Int) = ((ldg a i * 2 ^ k / 65536 : Nat) : Int) by rw [u16w]; omega]
      · rw [ldg_set_same (by simp; omega), Int.toNat_natCast]; exact hdiv
      · rw [val_take_succ, val_take_succ, take_set_ge (by omega), take_set_ge (Nat.le_refl i), ldg_set_same (by simp; omega), ldg_set_ne (by omega), ldg_set_same (by omega), Int.toNat_natCast, Int.toNat_natCast, ← hmod, val_take_succ]
        rw [val_take_succ] at hv
        have h2 := Nat.mod_add_div (ldg a i * 2 ^ k) 65536
        rw [Nat.pow_succ]
        generalize (ldg a i * 2 ^ k) % 65536 = mm at *
        generalize (ldg a i * 2 ^ k) / 65536 = dd at *
        generalize 65536 ^ i = P at *
        have h3 : P * (mm + 65536 * dd) = P * (ldg a i * 2 ^ k) := by rw [h2]
        clear hmod hmod2 hd1 hsp hw hlt2 hdiv
        grind
    · obtain rfl : i = a.length := by omega
      refine .inr ⟨x, ?_, hd, hlen, ?_⟩
      · simp (disch := omega) only [cmp_lss, dF, cond_false]
      · rw [List.take_of_length_le (by omega), List.take_length] at hv; exact hv) N (List.replicate (a.length + 1) 0, 0) ⟨0, by omega, rfl, dig_rep _, by simp, by rw [ldg_rep]; exact hk0, by rw [val_take_succ, ldg_rep]; simp [val]⟩ (by simp; omega)
  rw [ho]
  exact ⟨o, rfl, hp⟩

/- leading zeros -/
def lenT : Str := [0, 1, 2, 2, 3, 3, 3, 3, 4, 4, 4, 4, 4, 4, 4, 4, 5, 5, 5, 5, 5, 5, 5, 5, 5, 5, 5, 5, 5, 5, 5, 5, 6, 6, 6, 6, 6, 6, 6, 6, 6, 6, 6, 6, 6, 6, 6, 6, 6, 6, 6, 6, 6, 6, 6, 6, 6, 6, 6, 6, 6, 6, 6, 6, 7, 7, 7, 7, 7, 7, 7, 7, 7, 7, 7, 7, 7, 7, 7, 7, 7, 7, 7, 7, 7, 7, 7, 7, 7, 7, 7, 7, 7, 7, 7, 7, 7, 7, 7, 7, 7, 7, 7, 7, 7, 7, 7, 7, 7, 7, 7, 7, 7, 7, 7, 7, 7, 7, 7, 7, 7, 7, 7, 7, 7, 7, 7, 7, 8, 8, 8, 8, 8, 8, 8, 8, 8, 8, 8, 8, 8, 8, 8, 8, 8, 8, 8, 8, 8, 8, 8, 8, 8, 8, 8, 8, 8, 8, 8, 8, 8, 8, 8, 8, 8, 8, 8, 8, 8, 8, 8, 8, 8, 8, 8, 8, 8, 8, 8, 8, 8, 8, 8, 8, 8, 8, 8, 8, 8, 8, 8, 8, 8, 8, 8, 8, 8, 8, 8, 8, 8, 8, 8, 8, 8, 8, 8, 8, 8, 8, 8, 8, 8, 8, 8, 8, 8, 8, 8, 8, 8, 8, 8, 8, 8, 8, 8, 8, 8, 8, 8, 8, 8, 8, 8, 8, 8, 8, 8, 8, 8, 8, 8, 8, 8, 8, 8, 8, 8, 8, 8, 8, 8, 8, 8, 8]
theorem lenT_ok : ((List.range 256).all fun i => match idx lenT (i : Int) with | some c => Nat.beq i 0 || (Nat.blt i (2 ^ c.toNat) && Nat.ble (2 ^ c.toNat) (2 * i) && Nat.ble c.toNat 8) | none => false) = true := by kernel_rfl
theorem lenT_at {i : Nat} (hi : i < 256) (h0 : i ≠ 0) : ∃ c : UInt8, idx lenT (i : Int) = some c ∧ i < 2 ^ c.toNat ∧ 2 ^ c.toNat ≤ 2 * i ∧ c.toNat ≤ 8 := by
  have := List.all_eq_true.1 lenT_ok i (List.mem_range.2 hi)
  cases hx : idx lenT (i : Int) with
  | none => rw [hx] at this; cases this
  | some c =>
    rw [hx] at this
    simp only [Bool.or_eq_true, Bool.and_eq_true, Nat.beq_eq, Nat.blt_eq, Nat.ble_eq] at this
    rcases this with h | ⟨⟨h1, h2⟩, h3⟩
    · exact absurd h h0
    · exact ⟨c, rfl, h1, h2, h3⟩
theorem len16_def {N : Nat} {x : Int} : f_bits_Len16 N x = bif (cmpI .geq x 256) then ((shrI .u16 x 8).bind fun v1 => (idx lenT (IntKind.u8.wrap v1)).bind fun v2 => some (IntKind.i64.wrap (8 + (IntKind.i64.wrap ((UInt8.toNat v2 : Nat) : Int))))) else ((idx lenT (IntKind.u8.wrap x)).bind fun v3 => some (IntKind.i64.wrap (0 + (IntKind.i64.wrap ((UInt8.toNat v3 : Nat) : Int))))) := rfl
theorem lz16 {N d : Nat} (h0 : d ≠ 0) (hd : d < 65536) : ∃ k : Nat, k ≤ 15 ∧ f_bits_LeadingZeros16 N (d : Int) = some (k : Int) ∧ 32768 ≤ d * 2 ^ k ∧ (d + 1) * 2 ^ k ≤ 65536 := by
  have key : ∃ t : Nat, t ≤ 16 ∧ 1 ≤ t ∧ f_bits_Len16 N (d : Int) = some (t : Int) ∧ d < 2 ^ t ∧ 2 ^ t ≤ 2 * d := by
    rw [len16_def]
    by_cases h : d < 256
    · obtain ⟨c, h1, h2, h3, h4⟩ := lenT_at h h0
      refine ⟨c.toNat, by omega, ?_, ?_, h2, h3⟩
      · rcases Nat.eq_zero_or_pos c.toNat with h5 | h5
        · rw [h5] at h2; omega
        · exact h5
      · rw [cmp_geq, dF (by omega), cond_false, show IntKind.u8.wrap (d : Int) = d by rw [IntKind.wrap_u8]; omega, h1, Option.bind_some, w64i (n := ((UInt8.toNat c : Nat) : Int)) (by omega) (by omega), w64i (by omega) (by omega)]
        simp
    · obtain ⟨c, h1, h2, h3, h4⟩ := lenT_at (i := d / 256) (by omega) (by omega)
      have hp : 2 ^ (8 + c.toNat) = 256 * 2 ^ c.toNat := by rw [Nat.pow_add]
      refine ⟨8 + c.toNat, by omega, by omega, ?_, by omega, by omega⟩
      have hs : shrI .u16 (d : Int) 8 = some ((d / 256 : Nat) : Int) := by
        unfold shrI
        rw [if_neg (by decide), show min (Int.toNat 8) IntKind.u16.bits = 8 by decide, Int.fdiv_eq_ediv_of_nonneg _ (by decide)]
        rfl
      rw [cmp_geq, dT (by omega), cond_true, hs, Option.bind_some, show IntKind.u8.wrap ((d / 256 : Nat) : Int) = ((d / 256 : Nat) : Int) by rw [IntKind.wrap_u8]; omega, h1, Option.bind_some, w64i (n := ((UInt8.toNat c : Nat) : Int)) (by omega) (by omega), w64i (by omega) (by omega)]
      congr 1
  obtain ⟨t, h1, h2, h3, h4, h5⟩ := key
  refine ⟨16 - t, by omega, ?_, ?_, ?_⟩
  · unfold f_bits_LeadingZeros16
    rw [h3, Option.bind_some, w64i (by omega) (by omega)]
    congr 1; omega
  · have := pow_split h1
    have h6 := Nat.mul_le_mul_right (2 ^ (16 - t)) h5
    rw [← this, Nat.mul_assoc] at h6
    omega
  · have := pow_split h1
    have h6 := Nat.mul_le_mul_right (2 ^ (16 - t)) (show d + 1 ≤ 2 ^ t from h4)
    omega
end Go.KB
