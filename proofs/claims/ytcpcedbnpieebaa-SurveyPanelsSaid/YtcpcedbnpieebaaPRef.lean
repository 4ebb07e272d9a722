/- Plain laws of the base package of the references. No condition. -/
import Derived.Test.YtcpcedbnpieebaaPExact4
namespace Go.KB
set_option linter.unusedVariables false
theorem and64 {k : Nat} (h : k < 18446744073709551616) : bitI .and .u64 (k : Int) 65535 = ((k % 65536 : Nat) : Int) := by
  unfold bitI
  simp only []
  have e : (BitVec.ofInt IntKind.u64.bits (k : Int) &&& BitVec.ofInt IntKind.u64.bits (65535 : Int)).toNat = k % 65536 := by
    rw [BitVec.ofInt_natCast, BitVec.toNat_and, BitVec.toNat_ofNat]
    show k % 2 ^ 64 &&& 65535 = _
    rw [Nat.mod_eq_of_lt (by omega)]
    exact Nat.and_two_pow_sub_one_eq_mod k 16
  rw [e, u64n (by omega)]
theorem blimbs_eq {N n : Nat} (h : n < 18446744073709551616) (hN : n < N) : f_base_limbs N (n : Int) = some (limbs n) := by
  unfold f_base_limbs
  rw [loopN_eq (fun s => ∃ k : Nat, s.1 = (k : Int) ∧ k ≤ n ∧ s.2 ++ limbs k = limbs n) (fun s => s.1.toNat) (limbs n) ?_ N _ ⟨n, rfl, Nat.le_refl _, by simp⟩ (by simpa using hN)]
  · rfl
  · rintro ⟨s, acc⟩ ⟨k, hs, hk, hl⟩
    simp only at hs hl; subst hs
    unfold f_base_limbs_L1
    by_cases h0 : k = 0
    · subst h0
      refine .inr ?_
      rw [limbs_zero, List.append_nil] at hl
      simp [hl]
    · refine .inl ⟨(((k / 65536 : Nat) : Int), acc ++ [((k % 65536 : Nat) : Int)]), ?_, ⟨k / 65536, rfl, by omega, ?_⟩, by simp; omega⟩
      · simp only [cmp_gtr]
        rw [show decide ((0 : Int) < (k : Int)) = true by simp; omega, cond_true, and64 (by omega), u16n, Nat.mod_mod, app_ok, Option.bind_some, shr16 (by decide), Option.bind_some]
        have hlen := congrArg List.length hl
        have : (limbs n).length ≤ 4 := limbs_len (by simpa using h)
        rw [List.length_append, limbs_pos h0] at hlen
        simp only [List.length_cons, List.length_nil] at hlen ⊢
        unfold lim; omega
      · rw [← hl, limbs_pos h0]; simp
theorem Z_eq {N n : Nat} (h : n < 9223372036854775808) (hN : 2 ^ 64 ≤ N) : f_base_Z N (n : Int) = some (gint false n) := by
  unfold f_base_Z
  rw [cmp_lss, show decide ((n : Int) < 0) = false by rw [decide_eq_false_iff_not]; omega, cond_false, u64n (by omega), blimbs_eq (by omega) (by omega)]
  rfl
theorem W_eq {N n : Nat} (h : n < 9223372036854775808) (hN : 2 ^ 64 ≤ N) : f_base_W N (n : Int) = some ⟨gint false n, gint false 1⟩ := by
  unfold f_base_W
  rw [Z_eq h hN, Option.bind_some, show (1 : Int) = ((1 : Nat) : Int) from rfl, Z_eq (by omega) hN]
  rfl
theorem quoN {a g : Nat} (h : a < 9223372036854775808) (h0 : g ≠ 0) : quoI .i64 (a : Int) (g : Int) = some ((a / g : Nat) : Int) := by
  unfold quoI
  have := Nat.div_le_self a g
  rw [if_neg (by omega), ← Int.ofNat_tdiv, w64n (by omega)]
theorem Q_eq {N a b : Nat} (ha : a < 9223372036854775808) (hb0 : b ≠ 0) (hb : b < 9223372036854775808) (hN : 2 ^ 64 ≤ N) : f_base_Q N (a : Int) (b : Int) = some (qrat false a b) := by
  have hg0 : Nat.gcd a b ≠ 0 := fun e => hb0 (Nat.eq_zero_of_gcd_eq_zero_right e)
  have hda : a / Nat.gcd a b < 9223372036854775808 := Nat.lt_of_le_of_lt (Nat.div_le_self _ _) ha
  have hdb : b / Nat.gcd a b < 9223372036854775808 := Nat.lt_of_le_of_lt (Nat.div_le_self _ _) hb
  unfold f_base_Q
  rw [cmp_lss, show decide ((b : Int) < 0) = false by rw [decide_eq_false_iff_not]; omega, cond_false, Option.bind_some]
  simp only []
  rw [cmp_lss, show decide ((a : Int) < 0) = false by rw [decide_eq_false_iff_not]; omega, cond_false, Option.bind_some, gcd_loop (f_base_Q_L1 N) (fun s => rfl) (by omega), Option.bind_some, quoN ha hg0, Option.bind_some, Z_eq hda hN, Option.bind_some, quoN hb hg0, Option.bind_some, Z_eq hdb hN, Option.bind_some]
  rfl
theorem same_refl {O : Type} {N m : Nat} {r : O} {f : Int → Option (Int ⊕ O)} (hf : ∀ i : Nat, i < m → f i = some (.inl ((i + 1 : Nat) : Int))) (he : f m = some (.inr r)) (hN : m < N) : loopN f N 0 = some r :=
  loopN_range m r (fun _ => True) (fun i hi _ => .inl ⟨hf i hi, trivial⟩) (fun _ => he) trivial N hN
theorem SameInt_refl {N : Nat} {x : GInt} (h : x.Limbs.length < 9223372036854775807) (hN : x.Limbs.length < N) : f_base_SameInt N x x = some true := by
  unfold f_base_SameInt
  rw [show ((!(x.Neg == x.Neg)) || (cmpI .neq (List.length x.Limbs : Int) (List.length x.Limbs : Int))) = false by simp, cond_false]
  rw [same_refl (m := x.Limbs.length) (r := .inl ()) ?_ ?_ hN]
  · rfl
  · intro i hi
    unfold f_base_SameInt_L1
    rw [idx_nat hi, cmp_lss, show decide ((i : Int) < (x.Limbs.length : Int)) = true by rw [decide_eq_true_eq]; omega, cond_true, Option.bind_some, Option.bind_some, cmp_neq, show (!decide (x.Limbs[i] = x.Limbs[i])) = false by simp, cond_false, w64s (by omega)]
  · unfold f_base_SameInt_L1
    rw [cmp_lss, show decide (((x.Limbs.length : Nat) : Int) < (x.Limbs.length : Int)) = false by simp, cond_false]
theorem SameRat_refl {N : Nat} {x : GRat} (h : x.Num.Limbs.length < 9223372036854775807) (h' : x.Den.Limbs.length < 9223372036854775807) (hN : 2 ^ 64 ≤ N) : f_base_SameRat N x x = some true := by
  unfold f_base_SameRat
  rw [SameInt_refl h (by omega), Option.bind_some, cond_true, SameInt_refl h' (by omega)]; rfl
theorem SameRats_refl {N : Nat} {l : List GRat} (h : ∀ x ∈ l, x.Num.Limbs.length < 9223372036854775807 ∧ x.Den.Limbs.length < 9223372036854775807) (hl : l.length < 9223372036854775807) (hN : 2 ^ 64 ≤ N) : f_base_SameRats N l l = some true := by
  unfold f_base_SameRats
  rw [show (cmpI .neq (List.length l : Int) (List.length l : Int)) = false by simp, cond_false]
  rw [same_refl (m := l.length) (r := .inl ()) ?_ ?_ (by omega)]
  · rfl
  · intro i hi
    obtain ⟨h1, h2⟩ := h _ (List.getElem_mem hi)
    unfold f_base_SameRats_L1
    rw [idx_nat hi, cmp_lss, show decide ((i : Int) < (l.length : Int)) = true by rw [decide_eq_true_eq]; omega, cond_true, Option.bind_some, Option.bind_some, SameRat_refl h1 h2 hN, Option.bind_some, Bool.not_true, cond_false, w64s (by omega)]
  · unfold f_base_SameRats_L1
    rw [cmp_lss, show decide (((l.length : Nat) : Int) < (l.length : Int)) = false by simp, cond_false]
theorem Ints_refl {N : Nat} {l : List Int} (hl : l.length < 9223372036854775807) (hN : 2 ^ 64 ≤ N) : f_base_Ints N l l = some true := by
  unfold f_base_Ints
  rw [show (cmpI .neq (List.length l : Int) (List.length l : Int)) = false by simp, cond_false]
  rw [same_refl (m := l.length) (r := .inl ()) ?_ ?_ (by omega)]
  · rfl
  · intro i hi
    unfold f_base_Ints_L1
    rw [idx_nat hi, cmp_lss, show decide ((i : Int) < (l.length : Int)) = true by rw [decide_eq_true_eq]; omega, cond_true, Option.bind_some, Option.bind_some, cmp_neq, show (!decide (l[i] = l[i])) = false by simp, cond_false, w64s (by omega)]
  · unfold f_base_Ints_L1
    rw [cmp_lss, show decide (((l.length : Nat) : Int) < (l.length : Int)) = false by simp, cond_false]
end Go.KB
