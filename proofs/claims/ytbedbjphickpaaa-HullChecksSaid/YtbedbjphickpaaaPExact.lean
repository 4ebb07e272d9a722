/- Plain laws of the exact package's natural numbers. No condition. -/
import Derived.Test.YtbedbjphickpaaaPTxt
import Derived.Test.YtbedbjphickpaaaGPure
namespace Go.KB
set_option linter.unusedVariables false

/- the limbs of a natural number, the value of limbs -/
def limbs (n : Nat) : List Int := if h : n = 0 then [] else ((n % 65536 : Nat) : Int) :: limbs (n / 65536)
termination_by n
decreasing_by omega
def val : List Int → Nat
  | [] => 0
  | d :: r => d.toNat + 65536 * val r
def Dig (l : List Int) : Prop := ∀ d ∈ l, 0 ≤ d ∧ d < 65536
theorem limbs_zero : limbs 0 = [] := by unfold limbs; simp
theorem limbs_pos {n : Nat} (h : n ≠ 0) : limbs n = ((n % 65536 : Nat) : Int) :: limbs (n / 65536) := by rw [limbs]; simp [h]
theorem dig_limbs (n : Nat) : Dig (limbs n) := by
  induction n using Nat.strongRecOn with
  | ind n ih =>
    by_cases h : n = 0
    · subst h; rw [limbs_zero]; intro d hd; cases hd
    · rw [limbs_pos h]
      intro d hd
      rcases List.mem_cons.1 hd with rfl | hd
      · omega
      · exact ih _ (by omega) d hd
theorem val_limbs (n : Nat) : val (limbs n) = n := by
  induction n using Nat.strongRecOn with
  | ind n ih =>
    by_cases h : n = 0
    · subst h; rw [limbs_zero]; rfl
    · rw [limbs_pos h, val, ih _ (by omega)]; omega
theorem limbs_len {n k : Nat} (h : n < 65536 ^ k) : (limbs n).length ≤ k := by
  induction k generalizing n with
  | zero => simp at h; subst h; rw [limbs_zero]; simp
  | succ k ih =>
    by_cases h0 : n = 0
    · subst h0; rw [limbs_zero]; simp
    · rw [limbs_pos h0, List.length_cons]
      have := ih (n := n / 65536) (by rw [Nat.div_lt_iff_lt_mul (by decide)]; rwa [Nat.pow_succ] at h)
      omega
theorem limbs_nil {n : Nat} : limbs n = [] ↔ n = 0 := by
  constructor
  · intro h
    by_cases h0 : n = 0
    · exact h0
    · rw [limbs_pos h0] at h; cases h
  · intro h; subst h; exact limbs_zero
theorem limbs_last {n : Nat} (h : limbs n ≠ []) : (limbs n).getLast h ≠ 0 := by
  induction n using Nat.strongRecOn with
  | ind n ih =>
    have h0 : n ≠ 0 := fun e => h (limbs_nil.2 e)
    by_cases h1 : limbs (n / 65536) = []
    · have : n / 65536 = 0 := limbs_nil.1 h1
      simp only [limbs_pos h0, h1, List.getLast_singleton]
      omega
    · simp only [limbs_pos h0]
      rw [List.getLast_cons h1]
      exact ih _ (by omega) h1
theorem app_ok {α : Type} {xs ys : List α} (h : xs.length + ys.length ≤ lim) : app xs ys = some (xs ++ ys) := by
  unfold app; rw [Nat.ble_eq_true_of_le h]; rfl
theorem u64n {n : Nat} (h : n < 18446744073709551616) : IntKind.u64.wrap (n : Int) = n := by rw [IntKind.wrap_u64]; omega
theorem u16n {n : Nat} : IntKind.u16.wrap (n : Int) = ((n % 65536 : Nat) : Int) := by rw [IntKind.wrap_u16]; omega
theorem shr16 {n : Nat} {k : IntKind} (hk : 16 ≤ k.bits) : shrI k (n : Int) 16 = some ((n / 65536 : Nat) : Int) := by
  unfold shrI
  rw [if_neg (by decide), show min (Int.toNat 16) k.bits = 16 by simp; omega, Int.fdiv_eq_ediv_of_nonneg _ (by decide)]
  rfl

theorem natural_eq {N n : Nat} (h : n < 18446744073709551616) (hN : n < N) : f_exact_natural N (n : Int) = some (limbs n) := by
  unfold f_exact_natural
  rw [loopN_eq (fun s => ∃ k : Nat, s.1 = (k : Int) ∧ k ≤ n ∧ s.2 ++ limbs k = limbs n) (fun s => s.1.toNat) (limbs n) ?_ N _ ⟨n, rfl, Nat.le_refl _, by simp⟩ (by simpa using hN)]
  · rfl
  · rintro ⟨s, acc⟩ ⟨k, hs, hk, hl⟩
    simp only at hs hl; subst hs
    unfold f_exact_natural_L1
    by_cases h0 : k = 0
    · subst h0
      refine .inr ?_
      rw [limbs_zero, List.append_nil] at hl
      simp [hl]
    · refine .inl ⟨(((k / 65536 : Nat) : Int), acc ++ [((k % 65536 : Nat) : Int)]), ?_, ⟨k / 65536, rfl, by omega, ?_⟩, by simp; omega⟩
      · simp only [cmp_gtr]
        rw [show decide ((0 : Int) < (k : Int)) = true by simp; omega, cond_true, u16n, app_ok, Option.bind_some, shr16 (by decide), Option.bind_some]
        have hlen := congrArg List.length hl
        have : (limbs n).length ≤ 4 := limbs_len (by simpa using h)
        rw [List.length_append, limbs_pos h0] at hlen
        simp only [List.length_cons, List.length_nil] at hlen ⊢
        unfold lim; omega
      · rw [← hl, limbs_pos h0]; simp

/- limbs without zeros at the end -/
def Norm (l : List Int) : Prop := Dig l ∧ ∀ h : l ≠ [], l.getLast h ≠ 0
theorem norm_limbs (n : Nat) : Norm (limbs n) := ⟨dig_limbs n, fun h => limbs_last h⟩
theorem limbs_val {l : List Int} (h : Norm l) : limbs (val l) = l := by
  induction l with
  | nil => exact limbs_zero
  | cons d r ih =>
    obtain ⟨hd, hl⟩ := h
    have hd0 := hd d List.mem_cons_self
    have hr : Norm r := ⟨fun x hx => hd x (List.mem_cons_of_mem _ hx), fun hn => by have := hl (by simp); rwa [List.getLast_cons hn] at this⟩
    have ih := ih hr
    have hne : val (d :: r) ≠ 0 := by
      intro e
      simp only [val] at e
      have e1 : d.toNat = 0 := by omega
      have e2 : val r = 0 := by omega
      rw [e2, limbs_zero] at ih
      have := hl (by simp)
      subst ih
      simp only [List.getLast_singleton] at this
      omega
    rw [limbs_pos hne]
    simp only [val]
    have e1 : (d.toNat + 65536 * val r) % 65536 = d.toNat := by omega
    have e2 : (d.toNat + 65536 * val r) / 65536 = val r := by omega
    rw [e1, e2, ih]
    congr 1; omega
theorem val_append (l m : List Int) : val (l ++ m) = val l + 65536 ^ l.length * val m := by
  induction l with
  | nil => simp [val]
  | cons d r ih => simp only [List.cons_append, val, ih, List.length_cons, Nat.pow_succ, Nat.mul_add, Nat.add_assoc]; congr 2; rw [← Nat.mul_assoc, Nat.mul_comm 65536]
theorem slc_take {α : Type} {xs : List α} {n : Nat} (h : n ≤ xs.length) : slc xs 0 (n : Int) = some (xs.take n) := by
  unfold slc
  rw [show (decide ((0 : Int) ≤ 0) && decide ((0 : Int) ≤ (n : Int)) && decide ((n : Int) ≤ (xs.length : Int))) = true by simp; omega, cond_true]
  simp
theorem trim_eq {N : Nat} {l : List Int} (hd : Dig l) (hl : l.length < 9223372036854775807) (hN : l.length < N) : f_exact_trim N l = some (limbs (val l)) := by
  unfold f_exact_trim
  rw [loopN_eq (fun s => Dig s ∧ val s = val l ∧ s.length ≤ l.length) (fun s => s.length) (limbs (val l)) ?_ N _ ⟨hd, rfl, Nat.le_refl _⟩ hN]
  · rfl
  · rintro s ⟨hs, hv, hle⟩
    unfold f_exact_trim_L1
    rcases List.eq_nil_or_concat s with rfl | ⟨r, d, rfl⟩
    · refine .inr ?_
      simp only [List.length_nil, cmp_gtr]
      rw [← hv]; simp [val, limbs_zero]
    · rw [List.concat_eq_append] at *
      have hlen : (r ++ [d]).length = r.length + 1 := by simp
      have hlt : r.length < (r ++ [d]).length := by omega
      have hi := idx_nat hlt
      have e1 : IntKind.i64.wrap (((r ++ [d]).length : Int) - 1) = ((r.length : Nat) : Int) := by rw [hlen, w64 (by omega) (by omega)]; omega
      simp only [e1, hi, cmp_gtr, cmp_eql]
      rw [show decide ((0 : Int) < ((r ++ [d]).length : Int)) = true by rw [hlen, decide_eq_true_eq]; omega]
      simp only [cond_true, Option.bind_some, Bool.true_and]
      have eg : (r ++ [d])[r.length] = d := by simp
      rw [eg]
      by_cases h0 : d = 0
      · subst h0
        refine .inl ⟨r, ?_, ⟨fun x hx => hs x (List.mem_append_left _ hx), ?_, by omega⟩, by omega⟩
        · rw [show decide ((0 : Int) = 0) = true by decide, cond_true, slc_take (by omega)]; simp
        · rw [← hv, val_append]; simp [val]
      · refine .inr ?_
        rw [show decide (d = 0) = false by simp [h0], cond_false, ← hv, limbs_val ⟨hs, fun h => by simp [h0]⟩]
theorem trim_limbs {N n : Nat} (hl : (limbs n).length < 9223372036854775807) (hN : (limbs n).length < N) : f_exact_trim N (limbs n) = some (limbs n) := by
  rw [trim_eq (dig_limbs n) hl hN, val_limbs]
theorem clone_eq {N : Nat} {l : List Int} (hl : l.length ≤ lim) : f_slices_Cloneluint16_uint16 N l = some l := by
  unfold f_slices_Cloneluint16_uint16
  rw [app_ok (by simpa using hl)]; rfl
/- an integer of the exact package -/
def gint (neg : Bool) (n : Nat) : GInt := ⟨neg && decide (n ≠ 0), limbs n⟩
theorem signed_eq {N n : Nat} {neg : Bool} (hl : (limbs n).length ≤ lim) (hN : (limbs n).length < N) : f_exact_signed N neg (limbs n) = some (gint neg n) := by
  unfold f_exact_signed
  rw [trim_limbs (by unfold lim at hl; omega) hN, Option.bind_some, cmp_eql]
  by_cases h0 : n = 0
  · subst h0; rw [limbs_zero]; simp [gint, limbs_zero]
  · rw [show decide (((limbs n).length : Int) = 0) = false by rw [limbs_pos h0]; simp; omega, cond_false, clone_eq hl]
    simp [gint, h0]
theorem Of_eq {N n : Nat} (h : n < 9223372036854775808) (hN : 2 ^ 64 ≤ N) : f_exact_Of N (n : Int) = some (gint false n) := by
  have hlen : (limbs n).length ≤ 4 := limbs_len (by omega)
  unfold f_exact_Of
  rw [cmp_lss, show decide ((n : Int) < 0) = false by rw [decide_eq_false_iff_not]; omega, cond_false, u64n (by omega), natural_eq (by omega) (by omega), Option.bind_some, signed_eq (by unfold lim; omega) (by omega)]
  rfl
end Go.KB
