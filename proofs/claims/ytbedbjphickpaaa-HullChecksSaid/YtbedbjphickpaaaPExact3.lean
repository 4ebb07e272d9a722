/- Plain laws of the exact package: comparison, division by one limb, fractions of small numbers. No condition. -/
import Derived.Test.YtbedbjphickpaaaPExact2
namespace Go.KB
set_option linter.unusedVariables false

theorem u32n {n : Nat} (h : n < 4294967296) : IntKind.u32.wrap (n : Int) = n := by rw [IntKind.wrap_u32]; omega
/- limbs divided by one limb -/
theorem short_eq {N : Nat} {l : List Int} {b : Nat} (hd : Dig l) (hb0 : b ≠ 0) (hb : b < 65536) (hl : l.length ≤ 1000000) (hN : 2 ^ 64 ≤ N) : f_exact_short N l (b : Int) = some (limbs (val l / b), ((val l % b : Nat) : Int)) := by
  unfold f_exact_short
  have hmk : mk 0 (l.length : Int) (l.length : Int) = some (List.replicate l.length (0 : Int)) := by
    unfold mk
    rw [show (decide ((0 : Int) ≤ (l.length : Int)) && decide ((l.length : Int) ≤ (l.length : Int)) && decide ((l.length : Int) ≤ (lim : Int))) = true by
      simp only [Bool.and_eq_true, decide_eq_true_eq]; unfold lim; omega, cond_true, Int.toNat_natCast]
  rw [hmk, Option.bind_some]
  obtain ⟨o, ho, hp⟩ := loopN_of (f := f_exact_short_L1 N l (b : Int)) (fun s => ∃ k : Nat, k ≤ l.length ∧ s.2.2 = (k : Int) - 1 ∧ s.2.1 = ((val (l.drop k) % b : Nat) : Int) ∧ s.1.length = l.length ∧ Dig s.1 ∧ val (s.1.drop k) = val (l.drop k) / b) (fun s => (s.2.2 + 1).toNat)
    (fun o => o.2 = ((val l % b : Nat) : Int) ∧ o.1.length = l.length ∧ Dig o.1 ∧ val o.1 = val l / b) (by
    rintro ⟨q, rest, i⟩ ⟨k, hk, hi, hr, hq, hdq, hv⟩
    simp only at hi hr hq hdq hv
    subst hi; subst hr
    unfold f_exact_short_L1
    cases k with
    | zero =>
      refine .inr ⟨(q, ((val l % b : Nat) : Int)), ?_, rfl, hq, hdq, by simpa using hv⟩
      simp
    | succ k =>
      refine .inl ?_
      obtain ⟨d, e, hdl, hvl⟩ := dig_get hd (i := k) (by omega)
      have ei : ((k + 1 : Nat) : Int) - 1 = (k : Int) := by omega
      have hrl : val (l.drop (k + 1)) % b < b := Nat.mod_lt _ (by omega)
      generalize hR : val (l.drop (k + 1)) % b = R at *
      have hX : 65536 * R + d < 4294967296 := by omega
      have hdiv : (65536 * R + d) / b < 65536 := by
        rw [Nat.div_lt_iff_lt_mul (by omega)]
        have : 65536 * R + 65536 ≤ 65536 * b := by
          have := Nat.mul_le_mul_left 65536 (show R + 1 ≤ b by omega); omega
        omega
      have hmod : (65536 * R + d) % b < b := Nat.mod_lt _ (by omega)
      simp only [ei, cmp_geq, idx_nat (show k < l.length by omega), idx_nat (show k < q.length by omega), e]
      rw [show decide ((0 : Int) ≤ (k : Int)) = true by rw [decide_eq_true_eq]; omega, cond_true, shl16_32 (by omega), Option.bind_some, Option.bind_some, u32n (by omega), or32 hdl hX, u32n (by omega)]
      have hquo : quoI .u32 ((65536 * R + d : Nat) : Int) (b : Int) = some (((65536 * R + d) / b : Nat) : Int) := by
        unfold quoI
        rw [if_neg (by omega), ← Int.ofNat_tdiv, u32n (by omega)]
      rw [hquo, Option.bind_some, Option.bind_some, remN hb0, Option.bind_some, u16n, Nat.mod_eq_of_lt hdiv, w64 (by omega) (by omega), Int.toNat_natCast]
      have hmodeq : val (l.drop k) % b = (65536 * R + d) % b := by
        rw [hvl, ← hR, Nat.add_comm]
        conv => lhs; rw [Nat.add_mod, Nat.mul_mod]
        conv => rhs; rw [Nat.add_mod, Nat.mul_mod, Nat.mod_mod]
      have hdiveq : val (l.drop k) / b = (65536 * R + d) / b + 65536 * (val (l.drop (k + 1)) / b) := by
        have h1 := Nat.div_add_mod (val (l.drop (k + 1))) b
        rw [hR] at h1
        have h2 : val (l.drop k) = (65536 * R + d) + b * (65536 * (val (l.drop (k + 1)) / b)) := by
          rw [hvl]
          have : b * (65536 * (val (l.drop (k + 1)) / b)) = 65536 * (b * (val (l.drop (k + 1)) / b)) := by rw [Nat.mul_left_comm]
          omega
        rw [h2, Nat.add_mul_div_left _ _ (by omega)]
      refine ⟨_, rfl, ⟨k, by omega, rfl, by rw [hmodeq], by simp [hq], ?_, ?_⟩, by simp only []; omega⟩
      · intro x hx
        rcases List.mem_or_eq_of_mem_set hx with h | rfl
        · exact hdq x h
        · exact ⟨Int.natCast_nonneg _, Int.ofNat_lt.2 hdiv⟩
      · rw [List.drop_eq_getElem_cons (by simp; omega)]
        simp only [List.getElem_set_self, val, Int.toNat_natCast]
        rw [List.drop_set, if_pos (by omega), hv, hdiveq]) N (List.replicate l.length (0 : Int), (0 : Int), IntKind.i64.wrap ((l.length : Int) - 1)) ⟨l.length, Nat.le_refl _, by rw [w64 (by omega) (by omega)], by simp [val], by simp, by intro x hx; simp at hx; omega, by simp [val]⟩ (by simp only []; rw [w64 (by omega) (by omega)]; omega)
  rw [ho, Option.bind_some]
  obtain ⟨h1, h2, h3, h4⟩ := hp
  have hm : val l % b < b := Nat.mod_lt _ (by omega)
  rw [trim_eq h3 (by omega) (by omega), Option.bind_some, h4, h1, u16n, Nat.mod_eq_of_lt (by omega)]

theorem val_split (l : List Int) {k : Nat} (hk : k ≤ l.length) : val l = val (l.take k) + 65536 ^ k * val (l.drop k) := by
  have := val_append (l.take k) (l.drop k)
  rw [List.take_append_drop, List.length_take, Nat.min_eq_left hk] at this
  exact this
theorem dig_take {l : List Int} (h : Dig l) (i : Nat) : Dig (l.take i) := fun d hd => h d (List.mem_of_mem_take hd)
theorem norm_ge {l : List Int} (h : Norm l) (hne : l ≠ []) : 65536 ^ (l.length - 1) ≤ val l := by
  rcases List.eq_nil_or_concat l with rfl | ⟨r, d, rfl⟩
  · exact absurd rfl hne
  · rw [List.concat_eq_append] at *
    have hd := h.1 d (by simp)
    have hl := h.2 hne
    simp at hl
    rw [val_append]
    simp only [List.length_append, List.length_cons, List.length_nil, Nat.zero_add, Nat.add_sub_cancel, val]
    have : 1 ≤ d.toNat + 65536 * 0 := by omega
    have := Nat.mul_le_mul_left (65536 ^ r.length) this
    omega
theorem limbs_lt_len {a b : Nat} (h : (limbs a).length < (limbs b).length) : a < b := by
  have h1 := val_lt (dig_limbs a)
  rw [val_limbs] at h1
  have hb : limbs b ≠ [] := by intro e; rw [e] at h; simp at h
  have h2 := norm_ge (norm_limbs b) hb
  rw [val_limbs] at h2
  have := Nat.pow_le_pow_right (n := 65536) (by decide) (show (limbs a).length ≤ (limbs b).length - 1 by omega)
  omega
theorem cmp_digit {l m : List Int} {k : Nat} (hl : Dig l) (hm : Dig m) (hkl : k < l.length) (hkm : k < m.length) (he : l.drop (k + 1) = m.drop (k + 1)) (hlt : l[k] < m[k]) : val l < val m := by
  rw [val_split l (show k ≤ l.length by omega), val_split m (show k ≤ m.length by omega)]
  obtain ⟨d, e1, _, h1⟩ := dig_get hl hkl
  obtain ⟨e, e2, _, h2⟩ := dig_get hm hkm
  rw [e1, e2] at hlt
  have h3 := val_lt (dig_take hl k)
  rw [List.length_take, Nat.min_eq_left (by omega)] at h3
  rw [h1, h2, he]
  have : d + 65536 * val (m.drop (k + 1)) + 1 ≤ e + 65536 * val (m.drop (k + 1)) := by omega
  have := Nat.mul_le_mul_left (65536 ^ k) this
  rw [Nat.mul_add, Nat.mul_one] at this
  omega
theorem compare_eq {N a b : Nat} (ha : (limbs a).length ≤ 1000000) (hb : (limbs b).length ≤ 1000000) (hN : 2 ^ 64 ≤ N) : ∃ c, f_exact_compare N (limbs a) (limbs b) = some c ∧ (c < 0 ↔ a < b) ∧ (c = 0 ↔ a = b) := by
  unfold f_exact_compare
  by_cases hlen : (limbs a).length = (limbs b).length
  · rw [cmp_neq, show (!decide (((limbs a).length : Int) = ((limbs b).length : Int))) = false by rw [hlen]; simp, cond_false]
    obtain ⟨o, ho, hp⟩ := loopN_of (f := f_exact_compare_L1 N (limbs a) (limbs b)) (fun s => ∃ k : Nat, k ≤ (limbs a).length ∧ s = (k : Int) - 1 ∧ (limbs a).drop k = (limbs b).drop k) (fun s => (s + 1).toNat)
      (fun o => match o with | .inl _ => a = b | .inr c => (c < 0 ↔ a < b) ∧ (c = 0 ↔ a = b)) (by
      rintro s ⟨k, hk, rfl, he⟩
      unfold f_exact_compare_L1
      cases k with
      | zero =>
        refine .inr ⟨.inl (), ?_, ?_⟩
        · simp
        · have : limbs a = limbs b := by simpa using he
          show a = b
          rw [← val_limbs a, ← val_limbs b, this]
      | succ k =>
        have ei : ((k + 1 : Nat) : Int) - 1 = (k : Int) := by omega
        have hka : k < (limbs a).length := by omega
        have hkb : k < (limbs b).length := by omega
        have hda := dig_limbs a _ (List.getElem_mem hka)
        have hdb := dig_limbs b _ (List.getElem_mem hkb)
        simp only [ei, cmp_geq, idx_nat hka, idx_nat hkb, Option.bind_some, cmp_neq]
        rw [show decide ((0 : Int) ≤ (k : Int)) = true by rw [decide_eq_true_eq]; omega, cond_true]
        by_cases heq : (limbs a)[k] = (limbs b)[k]
        · refine .inl ⟨(k : Int) - 1, ?_, ⟨k, by omega, rfl, ?_⟩, by omega⟩
          · rw [show (!decide ((limbs a)[k] = (limbs b)[k])) = false by simp [heq], cond_false, w64 (by omega) (by omega)]
          · rw [List.drop_eq_getElem_cons hka, List.drop_eq_getElem_cons hkb, heq, he]
        · refine .inr ⟨.inr ((limbs a)[k] - (limbs b)[k]), ?_, ?_⟩
          · rw [show (!decide ((limbs a)[k] = (limbs b)[k])) = true by simp [heq], cond_true, w64 (n := (limbs a)[k]) (by omega) (by omega), w64 (n := (limbs b)[k]) (by omega) (by omega), w64 (by omega) (by omega)]
          · have h1 := cmp_digit (dig_limbs a) (dig_limbs b) hka hkb he
            have h2 := cmp_digit (dig_limbs b) (dig_limbs a) hkb hka he.symm
            rw [val_limbs, val_limbs] at h1 h2
            show (_ < 0 ↔ _) ∧ (_ = 0 ↔ _)
            rcases Int.lt_or_gt_of_ne heq with h | h
            · have := h1 h; constructor <;> constructor <;> intro _ <;> omega
            · have := h2 h; constructor <;> constructor <;> intro _ <;> omega) N (IntKind.i64.wrap (((limbs a).length : Int) - 1)) ⟨(limbs a).length, Nat.le_refl _, by rw [w64 (by omega) (by omega)], by rw [List.drop_length, hlen, List.drop_length]⟩ (by rw [w64 (by omega) (by omega)]; omega)
    rw [ho, Option.bind_some]
    cases o with
    | inl u => exact ⟨0, rfl, by have : a = b := hp; subst this; simp, by have : a = b := hp; subst this; simp⟩
    | inr c => exact ⟨c, rfl, hp⟩
  · refine ⟨((limbs a).length : Int) - ((limbs b).length : Int), ?_, ?_⟩
    · rw [cmp_neq, show (!decide (((limbs a).length : Int) = ((limbs b).length : Int))) = true by simp; omega, cond_true, w64 (by omega) (by omega)]
    · rcases Nat.lt_or_gt_of_ne hlen with h | h
      · have := limbs_lt_len h; constructor <;> constructor <;> intro _ <;> omega
      · have := limbs_lt_len h; constructor <;> constructor <;> intro _ <;> omega
/- division by one limb -/
theorem limbs_one {b : Nat} (h0 : b ≠ 0) (h : b < 65536) : limbs b = [(b : Int)] := by
  rw [limbs_pos h0, Nat.mod_eq_of_lt h, Nat.div_eq_of_lt h, limbs_zero]
theorem divide_one {N a b : Nat} (hb0 : b ≠ 0) (hb : b < 65536) (ha : (limbs a).length ≤ 1000000) (hN : 2 ^ 64 ≤ N) : f_exact_divide N (limbs a) (limbs b) = some (limbs (a / b), limbs (a % b)) := by
  unfold f_exact_divide
  obtain ⟨c, hc, hlt, _⟩ := compare_eq (N := N) ha (show (limbs b).length ≤ 1000000 by rw [limbs_one hb0 hb]; simp) hN
  rw [hc, Option.bind_some, cmp_lss]
  by_cases h : a < b
  · rw [show decide (c < 0) = true by rw [decide_eq_true_eq]; exact hlt.2 h, cond_true, clone_eq (by unfold lim; omega), Option.bind_some, Nat.div_eq_of_lt h, Nat.mod_eq_of_lt h, limbs_zero]
  · rw [show decide (c < 0) = false by rw [decide_eq_false_iff_not]; exact fun x => h (hlt.1 x), cond_false, limbs_one hb0 hb, cmp_eql]
    rw [show decide ((([(b : Int)].length : Nat) : Int) = 1) = true by rfl, cond_true]
    rw [show idx [(b : Int)] 0 = some (b : Int) from rfl, Option.bind_some, short_eq (dig_limbs a) hb0 hb ha hN, Option.bind_some, val_limbs]
    have hm : a % b < 65536 := Nat.lt_trans (Nat.mod_lt _ (by omega)) hb
    rw [trim_eq (l := [((a % b : Nat) : Int)]) (by intro d hd; simp at hd; subst hd; omega) (by simp) (by simp; omega), Option.bind_some]
    simp only [val, Int.toNat_natCast, Nat.mul_zero, Nat.add_zero]
end Go.KB
