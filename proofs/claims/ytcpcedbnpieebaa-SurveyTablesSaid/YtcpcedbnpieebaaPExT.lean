/- Plain laws of the exact package: products of natural numbers. No condition. -/
import Derived.Test.YtcpcedbnpieebaaPExN
namespace Go.KB
set_option linter.unusedVariables false

theorem ldg_zero {l : List Int} {j : Nat} (h : val l < 65536 ^ j) : ldg l j = 0 := by
  have h1 := val_cut l j
  have h2 := val_drop l j
  rcases Nat.eq_zero_or_pos (ldg l j) with h3 | h3
  · exact h3
  · exfalso
    have : 65536 ^ j * 1 ≤ 65536 ^ j * val (l.drop j) := Nat.mul_le_mul_left _ (by omega)
    omega
theorem dig_mul_lt {x y : Nat} (hx : x < 65536) (hy : y < 65536) : x * y ≤ 4294836225 := by
  have := Nat.mul_le_mul (show x ≤ 65535 by omega) (show y ≤ 65535 by omega)
  omega
theorem times_inner {N i x : Nat} {b out0 : List Int} (hb : Dig b) (hx : x < 65536) (ho : Dig out0) (hlen : i + b.length < out0.length) (hl : out0.length ≤ 2000000) (hz : ldg out0 (i + b.length) = 0) (hN : 2 ^ 64 ≤ N) :
    ∃ o, loopN (f_exact_times_L1 N b (out0, (i : Int)) (x : Int)) N (out0, 0, 0) = some o ∧ Dig o.1 ∧ o.1.length = out0.length ∧ ldg o.1 (i + b.length) = 0 ∧ ∃ c : Nat, c < 65536 ∧ o.2 = c ∧ val o.1 + 65536 ^ (i + b.length) * c = val out0 + 65536 ^ i * (x * val b) := by
  refine loopN_of (fun s => ∃ k c : Nat, k ≤ b.length ∧ c < 65536 ∧ s.2 = ((c : Int), (k : Int)) ∧ Dig s.1 ∧ s.1.length = out0.length ∧ ldg s.1 (i + b.length) = 0 ∧ val s.1 + 65536 ^ (i + k) * c = val out0 + 65536 ^ i * (x * val (b.take k))) (fun s => b.length - s.2.2.toNat) _ ?_ N _ ⟨0, 0, by omega, by omega, rfl, ho, rfl, hz, by simp [val]⟩ (by simp; omega)
  rintro ⟨out, cc, kk⟩ ⟨k, c, hk, hc, hs, hd, hlo, hz', hv⟩
  simp only [Prod.mk.injEq] at hs hd hlo hz' hv; obtain ⟨rfl, rfl⟩ := hs
  unfold f_exact_times_L1
  by_cases hlt : k < b.length
  · have hy := ldg_lt hb k
    have hu := ldg_lt hd (i + k)
    have hxy := dig_mul_lt hx hy
    refine .inl ⟨(out.set (i + k) (((c + x * ldg b k + ldg out (i + k)) % 65536 : Nat) : Int), (((c + x * ldg b k + ldg out (i + k)) / 65536 : Nat) : Int), ((k + 1 : Nat) : Int)), ?_, ⟨k + 1, (c + x * ldg b k + ldg out (i + k)) / 65536, by omega, by omega, rfl, dig_set hd (by omega) (by omega), by simp [hlo], ?_, ?_⟩, by simp; omega⟩
    · have hxi : IntKind.u32.wrap ((x : Int) * ((ldg b k : Nat) : Int)) = ((x * ldg b k : Nat) : Int) := by rw [← Int.natCast_mul, u32i (by omega) (by omega)]
      have hik : IntKind.i64.wrap ((i : Int) + (k : Int)) = ((i + k : Nat) : Int) := by rw [w64i (by omega) (by omega)]; omega
      simp (disch := omega) only [cmp_lss, dT, cond_true, idx_dg hb, Option.bind_some, hik, idx_dg hd, u32i, hxi, u16w, shr16i (k := .u32) (by decide), w64s, Int.toNat_natCast]
      have e : ((c : Int) + (((x * ldg b k : Nat) : Int) + ((ldg out (i + k) : Nat) : Int))) = ((c + x * ldg b k + ldg out (i + k) : Nat) : Int) := by omega
      rw [e]; rfl
    · rw [ldg_set_ne (by omega)]; exact hz'
    · have h1 := val_set (d := (((c + x * ldg b k + ldg out (i + k)) % 65536 : Nat) : Int)) (show i + k < out.length by omega)
      rw [Int.toNat_natCast] at h1
      rw [val_take_succ]
      have h2 := Nat.div_add_mod (c + x * ldg b k + ldg out (i + k)) 65536
      rw [show i + (k + 1) = i + k + 1 by omega, Nat.pow_succ]
      have hP : 65536 ^ (i + k) = 65536 ^ i * 65536 ^ k := Nat.pow_add _ _ _
      generalize val (out.set (i + k) (((c + x * ldg b k + ldg out (i + k)) % 65536 : Nat) : Int)) = V at *
      generalize (c + x * ldg b k + ldg out (i + k)) % 65536 = m at *
      generalize (c + x * ldg b k + ldg out (i + k)) / 65536 = q at *
      generalize 65536 ^ (i + k) = P at *
      generalize ldg out (i + k) = u at *
      generalize ldg b k = y at *
      generalize 65536 ^ k = Q at *
      generalize 65536 ^ i = R at *
      have h3 : P * (65536 * q + m) = P * (c + x * y + u) := by rw [h2]
      subst hP
      grind
  · obtain rfl : k = b.length := by omega
    refine .inr ⟨(out, (c : Int)), ?_, hd, hlo, hz', c, hc, rfl, ?_⟩
    · simp (disch := omega) only [cmp_lss, dF, cond_false]
    · rw [List.take_length] at hv; exact hv
theorem times_eq {N m n : Nat} (hm : nl m ≤ 900000) (hn : nl n ≤ 900000) (hN : 2 ^ 64 ≤ N) : f_exact_times N (limbs m) (limbs n) = some (limbs (m * n)) := by
  have ha := dig_limbs m
  have hb := dig_limbs n
  have hal : (limbs m).length ≤ 900000 := hm
  have hbl : (limbs n).length ≤ 900000 := hn
  have hvm := val_limbs m
  have hvn := val_limbs n
  generalize limbs m = a at *
  generalize limbs n = b at *
  unfold f_exact_times
  rw [w64i (by omega) (by omega), mk_rep (by omega) (by omega), Option.bind_some, show ((a.length : Int) + (b.length : Int)).toNat = a.length + b.length by omega]
  obtain ⟨o, ho, hd, hlen, hv⟩ := loopN_of (f := f_exact_times_L2 N a b) (fun s => ∃ i : Nat, i ≤ a.length ∧ s.2 = (i : Int) ∧ Dig s.1 ∧ s.1.length = a.length + b.length ∧ val s.1 = val (a.take i) * val b) (fun s => a.length - s.2.toNat)
    (fun o => Dig o ∧ o.length = a.length + b.length ∧ val o = val a * val b) (by
    rintro ⟨out, ii⟩ ⟨i, hi, hs, hd, hlen, hv⟩
    simp only at hs hd hlen hv; subst hs
    unfold f_exact_times_L2
    by_cases hlt : i < a.length
    · have hx := ldg_lt ha i
      have hbd : ∀ j, val (a.take j) * val b < 65536 ^ (j + b.length) := fun j => by
        have h1 := val_lt (dig_take ha j)
        have h2 : 65536 ^ (a.take j).length ≤ 65536 ^ j := Nat.pow_le_pow_right (by decide) (by rw [List.length_take]; omega)
        rw [Nat.pow_add]
        exact Nat.mul_lt_mul'' (by omega) (val_lt hb)
      obtain ⟨o, ho, hd', hlen', hz, c, hc, hoc, hv'⟩ := times_inner (N := N) (i := i) (x := ldg a i) hb hx hd (by omega) (by omega) (ldg_zero (by rw [hv]; exact hbd i)) hN
      refine .inl ⟨(o.1.set (i + b.length) (c : Int), ((i + 1 : Nat) : Int)), ?_, ⟨i + 1, by omega, rfl, dig_set hd' (by omega) (by omega), by simp only [List.length_set]; omega, ?_⟩, by simp; omega⟩
      · have hik : IntKind.i64.wrap ((i : Int) + (b.length : Int)) = ((i + b.length : Nat) : Int) := by rw [w64i (by omega) (by omega)]; omega
        simp (disch := omega) only [cmp_lss, dT, cond_true, idx_dg ha, Option.bind_some, ho, hik, idx_dg hd', hoc, u16w, w64s, Int.toNat_natCast]
        rw [show (c : Int) % 65536 = c by omega]
      · have h1 := val_set (d := (c : Int)) (show i + b.length < o.1.length by omega)
        rw [hz, Int.toNat_natCast] at h1
        simp only [val_take_succ]
        grind
    · obtain rfl : i = a.length := by omega
      refine .inr ⟨out, ?_, hd, hlen, ?_⟩
      · simp (disch := omega) only [cmp_lss, dF, cond_false]
      · rw [List.take_length] at hv; exact hv) N (List.replicate (a.length + b.length) 0, 0) ⟨0, by omega, rfl, dig_rep _, by simp, by simp [val, val_rep]⟩ (by simp; omega)
  rw [ho, Option.bind_some, limbs_of hd (n := m * n) (by rw [hv, hvm, hvn]) (by omega) (by omega)]
  rfl
end Go.KB
