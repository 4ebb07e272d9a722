/- Plain laws: maps as sets of names, texts that are compared, rows of numbers that are the same. No condition. -/
import Derived.Test.YtbedbjphickpaaaPLoop
namespace Go.KB
set_option linter.unusedVariables false
theorem mget_mset {α β : Type} [DecidableEq α] (z : β) (x k : α) (y : β) : ∀ m : List (α × β), mget z (mset m x y) k = if k = x then y else mget z m k
  | [] => by
    by_cases h : k = x
    · subst h; simp [mget, mset]
    · simp [mget, mset, h]
  | p :: r => by
    by_cases hp : x = p.1
    · subst hp
      by_cases h : k = p.1
      · subst h; simp [mget, mset]
      · simp [mget, mset, h]
    · by_cases h : k = p.1
      · subst h; simp [mget, mset, hp, Ne.symm hp]
      · simp [mget, mset, hp, h, mget_mset z x k y r]
theorem cmpS_eql (a b : Str) : cmpS .eql a b = decide (a = b) := by
  unfold cmpS
  rw [Bool.eq_iff_iff]
  simp
theorem cmpS_neq (a b : Str) : cmpS .neq a b = !decide (a = b) := by
  rw [← cmpS_eql]; rfl
/- names that have been seen -/
def dup (nm : Nat → Str) : Nat → Str → Bool
  | 0, _ => false
  | i + 1, x => decide (x = nm i) || dup nm i x
def seen (nm : Nat → Str) : Nat → List (Str × Bool)
  | 0 => []
  | i + 1 => mset (seen nm i) (nm i) true
theorem seen_get (nm : Nat → Str) (x : Str) : ∀ i, mget false (seen nm i) x = dup nm i x
  | 0 => rfl
  | i + 1 => by
    simp only [seen, dup, mget_mset, seen_get nm x i]
    by_cases h : x = nm i <;> simp [h]
theorem dup_iff (nm : Nat → Str) (x : Str) : ∀ i, dup nm i x = true ↔ ∃ j, j < i ∧ nm j = x
  | 0 => by simp [dup]
  | i + 1 => by
    simp only [dup, Bool.or_eq_true, decide_eq_true_eq, dup_iff nm x i]
    constructor
    · rintro (h | ⟨j, h1, h2⟩)
      · exact ⟨i, by omega, h.symm⟩
      · exact ⟨j, by omega, h2⟩
    · rintro ⟨j, h1, h2⟩
      by_cases hj : j = i
      · subst hj; exact .inl h2.symm
      · exact .inr ⟨j, by omega, h2⟩
def same (nm : Nat → Str) (x : Str) (j : Nat) : Int := if nm j = x then 5 else 0
theorem firstErr_at {e : Nat → Int} : ∀ {k i : Nat}, firstErr e k i ≠ 0 → ∃ j, i ≤ j ∧ j < i + k ∧ firstErr e k i = e j ∧ e j ≠ 0 ∧ ∀ m, i ≤ m → m < j → e m = 0 := by
  intro k
  induction k with
  | zero => intro i h; exact absurd rfl h
  | succ k ih =>
    intro i h
    by_cases h0 : e i = 0
    · rw [firstErr_s0 h0] at h ⊢
      obtain ⟨j, h1, h2, h3, h4, h5⟩ := ih h
      refine ⟨j, by omega, by omega, h3, h4, fun m hm hj => ?_⟩
      by_cases hmi : m = i
      · subst hmi; exact h0
      · exact h5 m (by omega) hj
    · rw [firstErr_s1 h0]; exact ⟨i, by omega, by omega, rfl, h0, fun m hm hj => by omega⟩
theorem same_dup (nm : Nat → Str) (x : Str) (i : Nat) : firstErr (same nm x) i 0 = if dup nm i x = true then 5 else 0 := by
  by_cases h : dup nm i x = true
  · rw [if_pos h]
    obtain ⟨j, h1, h2⟩ := (dup_iff nm x i).1 h
    have hne : firstErr (same nm x) i 0 ≠ 0 := fun e => by
      have := firstErr_zero e j (by omega) (by omega)
      unfold same at this
      rw [if_pos h2] at this
      cases this
    obtain ⟨k, _, _, h5, _⟩ := firstErr_at hne
    rw [h5] at hne ⊢
    unfold same at hne ⊢
    split
    · rfl
    · rename_i hk; rw [if_neg hk] at hne; exact absurd rfl hne
  · rw [if_neg h]
    refine Classical.byContradiction fun hne => ?_
    obtain ⟨k, _, h4, h5, _⟩ := firstErr_at hne
    unfold same at h5
    by_cases hk : nm k = x
    · exact h ((dup_iff nm x i).2 ⟨k, by omega, hk⟩)
    · rw [if_neg hk] at h5; exact hne h5
end Go.KB
