/- Plain laws of the exact package: words, greatest common divisors, division by one limb. No condition. -/
import Derived.Test.YtbedbjphickpaaaPExact
namespace Go.KB
set_option linter.unusedVariables false

theorem or_mul (a d : Nat) (hd : d < 65536) : 65536 * a ||| d = 65536 * a + d := by
  have := Nat.shiftLeft_add_eq_or_of_lt (i := 16) (b := d) (by simpa using hd) a
  rw [Nat.shiftLeft_eq] at this
  rw [Nat.mul_comm 65536 a, ← this]
theorem or64 {a d : Nat} (hd : d < 65536) (h : 65536 * a + d < 18446744073709551616) : bitI .or .u64 ((65536 * a : Nat) : Int) ((d : Nat) : Int) = ((65536 * a + d : Nat) : Int) := by
  unfold bitI
  simp only []
  have e : (BitVec.ofInt IntKind.u64.bits ((65536 * a : Nat) : Int) ||| BitVec.ofInt IntKind.u64.bits ((d : Nat) : Int)).toNat = 65536 * a + d := by
    rw [BitVec.ofInt_natCast, BitVec.ofInt_natCast, BitVec.toNat_or, BitVec.toNat_ofNat, BitVec.toNat_ofNat]
    show (65536 * a) % 2 ^ 64 ||| d % 2 ^ 64 = _
    rw [Nat.mod_eq_of_lt (by omega), Nat.mod_eq_of_lt (by omega), or_mul a d hd]
  rw [e, u64n h]
theorem or32 {a d : Nat} (hd : d < 65536) (h : 65536 * a + d < 4294967296) : bitI .or .u32 ((65536 * a : Nat) : Int) ((d : Nat) : Int) = ((65536 * a + d : Nat) : Int) := by
  unfold bitI
  simp only []
  have e : (BitVec.ofInt IntKind.u32.bits ((65536 * a : Nat) : Int) ||| BitVec.ofInt IntKind.u32.bits ((d : Nat) : Int)).toNat = 65536 * a + d := by
    rw [BitVec.ofInt_natCast, BitVec.ofInt_natCast, BitVec.toNat_or, BitVec.toNat_ofNat, BitVec.toNat_ofNat]
    show (65536 * a) % 2 ^ 32 ||| d % 2 ^ 32 = _
    rw [Nat.mod_eq_of_lt (by omega), Nat.mod_eq_of_lt (by omega), or_mul a d hd]
  rw [e, IntKind.wrap_u32]; omega
theorem shl16_64 {a : Nat} (h : 65536 * a < 18446744073709551616) : shlI .u64 (a : Int) 16 = some ((65536 * a : Nat) : Int) := by
  unfold shlI
  rw [if_neg (by decide), show min (Int.toNat 16) IntKind.u64.bits = 16 by decide, IntKind.wrap_u64]
  congr 1
  rw [show (2 : Int) ^ 16 = 65536 by decide]; omega
theorem shl16_32 {a : Nat} (h : 65536 * a < 4294967296) : shlI .u32 (a : Int) 16 = some ((65536 * a : Nat) : Int) := by
  unfold shlI
  rw [if_neg (by decide), show min (Int.toNat 16) IntKind.u32.bits = 16 by decide, IntKind.wrap_u32]
  congr 1
  rw [show (2 : Int) ^ 16 = 65536 by decide]; omega
theorem val_lt {l : List Int} (h : Dig l) : val l < 65536 ^ l.length := by
  induction l with
  | nil => simp [val]
  | cons d r ih =>
    have hd := h d List.mem_cons_self
    have := ih (fun x hx => h x (List.mem_cons_of_mem _ hx))
    simp only [val, List.length_cons, Nat.pow_succ]
    have : d.toNat < 65536 := by omega
    have : 65536 * val r + 65536 ≤ 65536 ^ r.length * 65536 := by
      rw [Nat.mul_comm (65536 ^ r.length)]
      exact Nat.mul_le_mul_left 65536 (by omega : val r + 1 ≤ 65536 ^ r.length)
    omega
theorem dig_get {l : List Int} (h : Dig l) {i : Nat} (hi : i < l.length) : ∃ d : Nat, l[i] = (d : Int) ∧ d < 65536 ∧ val (l.drop i) = d + 65536 * val (l.drop (i + 1)) := by
  have := h _ (List.getElem_mem hi)
  refine ⟨l[i].toNat, by omega, by omega, ?_⟩
  rw [List.drop_eq_getElem_cons hi]; rfl
theorem dig_drop {l : List Int} (h : Dig l) (i : Nat) : Dig (l.drop i) := fun d hd => h d (List.mem_of_mem_drop hd)

theorem word_eq {N : Nat} {l : List Int} (hd : Dig l) (hl : l.length ≤ 4) (hN : 5 ≤ N) : f_exact_word N l = some (((val l : Nat) : Int), true) := by
  unfold f_exact_word
  rw [cmp_gtr, show decide ((4 : Int) < (l.length : Int)) = false by rw [decide_eq_false_iff_not]; omega, cond_false]
  rw [loopN_eq (fun s => ∃ k : Nat, k ≤ l.length ∧ s = (((val (l.drop k) : Nat) : Int), (k : Int) - 1)) (fun s => (s.2 + 1).toNat) ((val l : Nat) : Int) ?_ N _ ⟨l.length, Nat.le_refl _, ?_⟩ ?_]
  · rfl
  · rintro s ⟨k, hk, rfl⟩
    unfold f_exact_word_L1
    cases k with
    | zero =>
      refine .inr ?_
      simp
    | succ k =>
      obtain ⟨d, e, hdl, hv⟩ := dig_get hd (i := k) (by omega)
      have hlt := val_lt (dig_drop hd (k + 1))
      have hlt2 := val_lt (dig_drop hd k)
      have hp : 65536 ^ (l.drop k).length ≤ 65536 ^ 4 := Nat.pow_le_pow_right (by decide) (by simp; omega)
      have hp4 : 65536 ^ 4 = 18446744073709551616 := by decide
      refine .inl ⟨(((val (l.drop k) : Nat) : Int), (k : Int) - 1), ?_, ⟨k, by omega, rfl⟩, by simp only []; omega⟩
      have ei : ((k + 1 : Nat) : Int) - 1 = (k : Int) := by omega
      simp only [ei, cmp_geq, idx_nat (show k < l.length by omega), e]
      rw [show decide ((0 : Int) ≤ (k : Int)) = true by simp, cond_true, shl16_64 (by omega), Option.bind_some, Option.bind_some, u64n (by omega), or64 hdl (by omega), w64 (by omega) (by omega), hv, Nat.add_comm]
  · simp only [List.drop_length, val]
    rw [w64 (by omega) (by omega)]; rfl
  · rw [w64 (by omega) (by omega)]; simp only []; omega

theorem remN {a b : Nat} (h : b ≠ 0) : remI (a : Int) (b : Int) = some ((a % b : Nat) : Int) := by
  unfold remI
  rw [if_neg (by omega)]
  rfl
theorem gcd_loop {N a b : Nat} (f : (Int × Int) → Option ((Int × Int) ⊕ Int)) (hf : ∀ s, f s = bif (cmpI .gtr s.2 0) then ((remI s.1 s.2).bind fun v5 => some (.inl (s.2, v5))) else (some (.inr s.1))) (hN : b < N) :
    loopN f N ((a : Int), (b : Int)) = some ((Nat.gcd a b : Nat) : Int) :=
  loopN_eq (fun s => ∃ x y : Nat, s = ((x : Int), (y : Int)) ∧ Nat.gcd x y = Nat.gcd a b) (fun s => s.2.toNat) _ (by
    rintro s ⟨x, y, rfl, hg⟩
    rw [hf]
    simp only [cmp_gtr]
    by_cases h0 : y = 0
    · subst h0
      refine .inr ?_
      rw [Nat.gcd_zero_right] at hg
      subst hg; rfl
    · refine .inl ⟨((y : Int), ((x % y : Nat) : Int)), ?_, ⟨y, x % y, rfl, ?_⟩, ?_⟩
      · rw [show decide ((0 : Int) < (y : Int)) = true by rw [decide_eq_true_eq]; omega, cond_true, remN h0, Option.bind_some]
      · rw [← hg, Nat.gcd_comm y, ← Nat.gcd_rec, Nat.gcd_comm]
      · simp only [Int.toNat_natCast]
        exact Nat.mod_lt _ (by omega)) N _ ⟨a, b, rfl, rfl⟩ (by simpa using hN)
theorem common_eq {N a b : Nat} (ha : a < 18446744073709551616) (hb : b < 18446744073709551616) (hN : 2 ^ 64 ≤ N) : f_exact_common N (limbs a) (limbs b) = some (limbs (Nat.gcd a b)) := by
  unfold f_exact_common
  obtain ⟨M, rfl⟩ : ∃ M, N = M + 1 := ⟨N - 1, by omega⟩
  by_cases h0 : b = 0
  · subst h0
    rw [limbs_zero, Nat.gcd_zero_right]
    simp [loopN, f_exact_common_L2]
  · have ha4 : (limbs a).length ≤ 4 := limbs_len (by omega)
    have hb4 : (limbs b).length ≤ 4 := limbs_len (by omega)
    have hg : Nat.gcd a b ≤ b := Nat.gcd_le_right a (by omega)
    have hstep : f_exact_common_L2 (M + 1) (limbs a, limbs b) = some (.inr (Sum.inr (limbs (Nat.gcd a b)))) := by
      unfold f_exact_common_L2
      simp only [cmp_gtr]
      rw [show decide ((0 : Int) < ((limbs b).length : Int)) = true by rw [limbs_pos h0, decide_eq_true_eq, List.length_cons]; omega, cond_true, word_eq (dig_limbs a) ha4 (by omega), word_eq (dig_limbs b) hb4 (by omega)]
      simp only [Option.bind_some, Bool.and_true, cond_true, val_limbs]
      rw [gcd_loop (f_exact_common_L1 (M + 1)) (fun s => rfl) (by omega), Option.bind_some, natural_eq (by omega) (by omega)]
      rfl
    simp only [loopN, hstep, Option.bind_some]
    rfl
end Go.KB
