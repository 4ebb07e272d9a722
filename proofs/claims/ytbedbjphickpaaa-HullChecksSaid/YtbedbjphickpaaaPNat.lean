/- Plain laws: digits of lists of limbs; arithmetic of machine integers within their limits. No condition. -/
import Derived.Test.YtbedbjphickpaaaPExact3
namespace Go.KB
set_option linter.unusedVariables false

theorem w64i {n : Int} (h0 : -9223372036854775808 ≤ n) (h1 : n ≤ 9223372036854775807) : IntKind.i64.wrap n = n := wrap64_id h0 h1
theorem u64i {n : Int} (h0 : 0 ≤ n) (h1 : n < 18446744073709551616) : IntKind.u64.wrap n = n := by rw [IntKind.wrap_u64]; omega
theorem u32i {n : Int} (h0 : 0 ≤ n) (h1 : n < 4294967296) : IntKind.u32.wrap n = n := by rw [IntKind.wrap_u32]; omega
theorem u16w {n : Int} : IntKind.u16.wrap n = n % 65536 := IntKind.wrap_u16 n
theorem shr16i {n : Int} {k : IntKind} (hk : 16 ≤ k.bits) : shrI k n 16 = some (n / 65536) := by
  unfold shrI
  rw [if_neg (by decide), show min (Int.toNat 16) k.bits = 16 by simp; omega, Int.fdiv_eq_ediv_of_nonneg _ (by decide)]
  rfl
theorem dT {p : Prop} [Decidable p] (h : p) : decide p = true := decide_eq_true h
theorem dF {p : Prop} [Decidable p] (h : ¬p) : decide p = false := decide_eq_false h

/- digits -/
def ldg (l : List Int) (i : Nat) : Nat := (l.getD i 0).toNat
theorem ldg_get {l : List Int} {i : Nat} (hi : i < l.length) : ldg l i = l[i].toNat := by unfold ldg; simp [hi]
theorem ldg_out {l : List Int} {i : Nat} (hi : l.length ≤ i) : ldg l i = 0 := by unfold ldg; simp [hi]
theorem ldg_lt {l : List Int} (h : Dig l) (i : Nat) : ldg l i < 65536 := by
  by_cases hi : i < l.length
  · rw [ldg_get hi]; have := h _ (List.getElem_mem hi); omega
  · rw [ldg_out (by omega)]; omega
theorem ldg_int {l : List Int} (h : Dig l) {i : Nat} (hi : i < l.length) : l[i] = ((ldg l i : Nat) : Int) := by
  rw [ldg_get hi]; have := h _ (List.getElem_mem hi); omega
theorem idx_dg {l : List Int} {i : Nat} (h : Dig l) (hi : i < l.length) : idx l (i : Int) = some ((ldg l i : Nat) : Int) := by rw [idx_nat hi, ldg_int h hi]
theorem val_take_succ (l : List Int) (i : Nat) : val (l.take (i + 1)) = val (l.take i) + 65536 ^ i * ldg l i := by
  by_cases hi : i < l.length
  · rw [List.take_succ_eq_append_getElem hi, val_append, ldg_get hi, List.length_take, Nat.min_eq_left (by omega)]
    simp [val]
  · rw [List.take_of_length_le (by omega), List.take_of_length_le (by omega), ldg_out (by omega)]; simp
theorem val_drop (l : List Int) (i : Nat) : val (l.drop i) = ldg l i + 65536 * val (l.drop (i + 1)) := by
  by_cases hi : i < l.length
  · rw [List.drop_eq_getElem_cons hi, ldg_get hi]; rfl
  · rw [List.drop_of_length_le (by omega), List.drop_of_length_le (by omega), ldg_out (by omega)]; rfl
theorem val_cut (l : List Int) (i : Nat) : val l = val (l.take i) + 65536 ^ i * val (l.drop i) := by
  by_cases hi : i ≤ l.length
  · exact val_split l hi
  · rw [List.take_of_length_le (by omega), List.drop_of_length_le (by omega)]; simp [val]
theorem ldg_cons_succ {d : Int} {l : List Int} {i : Nat} : ldg (d :: l) (i + 1) = ldg l i := by simp [ldg]
theorem ldg_set_same {l : List Int} {i : Nat} {d : Int} (hi : i < l.length) : ldg (l.set i d) i = d.toNat := by rw [ldg_get (by simpa using hi)]; simp
theorem ldg_set_ne {l : List Int} {i j : Nat} {d : Int} (h : i ≠ j) : ldg (l.set i d) j = ldg l j := by simp [ldg, h]
theorem dig_set {l : List Int} {i : Nat} {d : Int} (h : Dig l) (h0 : 0 ≤ d) (h1 : d < 65536) : Dig (l.set i d) := by
  intro x hx
  rcases List.mem_or_eq_of_mem_set hx with hx | rfl
  · exact h x hx
  · exact ⟨h0, h1⟩
theorem dig_app {l m : List Int} (h : Dig l) (h' : Dig m) : Dig (l ++ m) := fun d hd => (List.mem_append.1 hd).elim (h d) (h' d)
theorem dig_one {d : Int} (h0 : 0 ≤ d) (h1 : d < 65536) : Dig [d] := fun x hx => by rw [List.mem_singleton] at hx; subst hx; exact ⟨h0, h1⟩
theorem dig_nil : Dig [] := fun x hx => by cases hx
theorem dig_cons {d : Int} {l : List Int} (h : Dig l) (h0 : 0 ≤ d) (h1 : d < 65536) : Dig (d :: l) := fun x hx => (List.mem_cons.1 hx).elim (fun e => by subst e; exact ⟨h0, h1⟩) (h x)
theorem dig_rep (n : Nat) : Dig (List.replicate n 0) := fun x hx => by rw [(List.mem_replicate.1 hx).2]; omega
theorem val_rep (n : Nat) : val (List.replicate n 0) = 0 := by induction n with
  | zero => rfl
  | succ n ih => simp [List.replicate_succ, val, ih]
theorem ldg_rep (n i : Nat) : ldg (List.replicate n 0) i = 0 := by
  by_cases hi : i < n
  · rw [ldg_get (by simpa using hi)]; simp
  · exact ldg_out (by simpa using hi)
theorem take_set_ge {l : List Int} {i k : Nat} {d : Int} (h : k ≤ i) : (l.set i d).take k = l.take k := by rw [List.take_set_of_le h]
theorem val_app1 (l : List Int) (d : Int) : val (l ++ [d]) = val l + 65536 ^ l.length * d.toNat := by rw [val_append]; simp [val]
theorem val_set {l : List Int} {i : Nat} {d : Int} (hi : i < l.length) : val (l.set i d) + 65536 ^ i * ldg l i = val l + 65536 ^ i * d.toNat := by
  induction l generalizing i with
  | nil => simp at hi
  | cons x l ih =>
    cases i with
    | zero => simp [val, ldg]; omega
    | succ i =>
      have := ih (i := i) (by simpa using hi)
      rw [List.set_cons_succ, ldg_cons_succ]
      simp only [val, Nat.pow_succ]
      grind
theorem val_inj_drop {l m : List Int} {k : Nat} (h : l.drop k = m.drop k) : val (l.drop k) = val (m.drop k) := by rw [h]
theorem drop_set_lt' {l : List Int} {i k : Nat} {d : Int} (h : i < k) : (l.set i d).drop k = l.drop k := by rw [List.drop_set, if_pos h]
theorem ldg_last {n : Nat} (h : limbs n ≠ []) : ldg (limbs n) ((limbs n).length - 1) ≠ 0 := by
  have := limbs_last h
  have hp : (limbs n).length - 1 < (limbs n).length := by have := List.length_pos_iff.2 h; omega
  rw [ldg_get hp, List.getLast_eq_getElem] at *
  have := dig_limbs n _ (List.getElem_mem hp)
  omega
/- how many limbs -/
def nl (n : Nat) : Nat := (limbs n).length
theorem nl_lt (n : Nat) : n < 65536 ^ nl n := by have := val_lt (dig_limbs n); rwa [val_limbs] at this
theorem nl_le {n k : Nat} (h : n < 65536 ^ k) : nl n ≤ k := limbs_len h
theorem nl_ge {n : Nat} (h : n ≠ 0) : 65536 ^ (nl n - 1) ≤ n := by
  have := norm_ge (norm_limbs n) (fun e => h (limbs_nil.1 e))
  rwa [val_limbs] at this
theorem nl_mono {m n : Nat} (h : m ≤ n) : nl m ≤ nl n := nl_le (Nat.lt_of_le_of_lt h (nl_lt n))
theorem nl_mul (m n : Nat) : nl (m * n) ≤ nl m + nl n := nl_le (by rw [Nat.pow_add]; exact Nat.mul_lt_mul'' (nl_lt m) (nl_lt n))
theorem nl_add (m n : Nat) : nl (m + n) ≤ max (nl m) (nl n) + 1 := by
  refine nl_le ?_
  have h1 := Nat.lt_of_lt_of_le (nl_lt m) (Nat.pow_le_pow_right (by decide) (Nat.le_max_left (nl m) (nl n)))
  have h2 := Nat.lt_of_lt_of_le (nl_lt n) (Nat.pow_le_pow_right (by decide) (Nat.le_max_right (nl m) (nl n)))
  rw [Nat.pow_succ]; omega
theorem nl_zero : nl 0 = 0 := by simp [nl, limbs_zero]
theorem nl_pos {n : Nat} (h : n ≠ 0) : 0 < nl n := by unfold nl; rw [limbs_pos h]; simp
theorem nl_eq (n : Nat) : (limbs n).length = nl n := rfl
/- limbs from digits -/
theorem limbs_of {l : List Int} {n : Nat} (hd : Dig l) (h : val l = n) {N : Nat} (hl : l.length < 9223372036854775807) (hN : l.length < N) : f_exact_trim N l = some (limbs n) := by rw [trim_eq hd hl hN, h]
end Go.KB
