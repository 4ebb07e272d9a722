/- Plain laws: loops that look for the first error, that make a list, that change a list in its place. No condition. -/
import Derived.Test.YtbedbjphickpaaaPNat
namespace Go.KB
set_option linter.unusedVariables false

/- the first error among those at the places i, i + 1, .. (k of them) -/
def firstErr (e : Nat → Int) : Nat → Nat → Int
  | 0, _ => 0
  | k + 1, i => if e i = 0 then firstErr e k (i + 1) else e i
theorem firstErr_zero {e : Nat → Int} : ∀ {k i : Nat}, firstErr e k i = 0 → ∀ j, i ≤ j → j < i + k → e j = 0 := by
  intro k
  induction k with
  | zero => intro i _ j h1 h2; omega
  | succ k ih =>
    intro i h j h1 h2
    simp only [firstErr] at h
    split at h
    · rename_i h0
      rcases Nat.eq_or_lt_of_le h1 with rfl | h1
      · exact h0
      · exact ih h j h1 (by omega)
    · rename_i h0; exact absurd h h0
theorem firstErr_congr {e e' : Nat → Int} : ∀ {k i : Nat}, (∀ j, i ≤ j → j < i + k → (∀ m, i ≤ m → m < j → e m = 0) → e j = e' j) → firstErr e k i = firstErr e' k i := by
  intro k
  induction k with
  | zero => intro i _; rfl
  | succ k ih =>
    intro i h
    have h0 := h i (Nat.le_refl _) (by omega) (fun m h1 h2 => by omega)
    simp only [firstErr]
    rw [← h0]
    by_cases hz : e i = 0
    · rw [if_pos hz, if_pos hz]
      refine ih fun j h1 h2 h3 => h j (by omega) (by omega) fun m hm1 hm2 => ?_
      rcases Nat.eq_or_lt_of_le hm1 with rfl | hm1
      · exact hz
      · exact h3 m hm1 hm2
    · rw [if_neg hz, if_neg hz]
def errOr {O : Type} (fin : O) (err : Int → O) (z : Int) : O := if z = 0 then fin else err z
theorem firstErr_s0 {e : Nat → Int} {k i : Nat} (h : e i = 0) : firstErr e (k + 1) i = firstErr e k (i + 1) := by simp [firstErr, h]
theorem firstErr_s1 {e : Nat → Int} {k i : Nat} (h : e i ≠ 0) : firstErr e (k + 1) i = e i := by simp [firstErr, h]
/- a loop that hands out the first error -/
theorem loop_err {O : Type} {n N : Nat} {f : Int → Option (Int ⊕ O)} {e : Nat → Int} {fin : O} {err : Int → O} (hf : ∀ i : Nat, i < n → (∀ j, j < i → e j = 0) → f (i : Int) = if e i = 0 then some (.inl ((i + 1 : Nat) : Int)) else some (.inr (err (e i)))) (he : (∀ j, j < n → e j = 0) → f (n : Int) = some (.inr fin)) (hN : n < N) :
    loopN f N 0 = some (errOr fin err (firstErr e n 0)) := by
  have key : ∀ k i, i + k = n → (∀ j, j < i → e j = 0) → ∀ M, k < M → loopN f M (i : Int) = some (errOr fin err (firstErr e k i)) := by
    intro k
    induction k with
    | zero =>
      intro i hi hz M hM
      obtain ⟨M, rfl⟩ : ∃ m, M = m + 1 := ⟨M - 1, by omega⟩
      have : i = n := by omega
      subst this
      simp only [loopN, he hz, firstErr]; rfl
    | succ k ih =>
      intro i hi hz M hM
      obtain ⟨M, rfl⟩ : ∃ m, M = m + 1 := ⟨M - 1, by omega⟩
      simp only [loopN, hf i (by omega) hz]
      by_cases h0 : e i = 0
      · rw [if_pos h0, firstErr_s0 h0]
        exact ih (i + 1) (by omega) (fun j hj => by
          rcases Nat.lt_succ_iff_lt_or_eq.1 hj with h | rfl
          · exact hz j h
          · exact h0) M (by omega)
      · rw [if_neg h0, firstErr_s1 h0]
        unfold errOr
        rw [if_neg h0]
  exact key n 0 (by omega) (fun j hj => absurd hj (Nat.not_lt_zero _)) N (by omega)
theorem loop_err0 {n N : Nat} {f : Int → Option (Int ⊕ (Unit ⊕ Int))} {e : Nat → Int} (hf : ∀ i : Nat, i < n → (∀ j, j < i → e j = 0) → f (i : Int) = if e i = 0 then some (.inl ((i + 1 : Nat) : Int)) else some (.inr (.inr (e i)))) (he : (∀ j, j < n → e j = 0) → f (n : Int) = some (.inr (.inl ()))) (hN : n < N) :
    ((loopN f N 0).bind fun o => Sum.elim (fun _ => some (0 : Int)) (fun r => some r) o) = some (firstErr e n 0) := by
  rw [loop_err hf he hN]
  unfold errOr
  by_cases h : firstErr e n 0 = 0
  · rw [if_pos h, Option.bind_some, h]; rfl
  · rw [if_neg h]; rfl
/- .. with a state -/
theorem loop_errG {S O : Type} {n N : Nat} {f : S → Option (S ⊕ O)} {e : Nat → Int} {fin : O} {err : Int → O} (g : Nat → S) (hf : ∀ i : Nat, i < n → (∀ j, j < i → e j = 0) → f (g i) = if e i = 0 then some (.inl (g (i + 1))) else some (.inr (err (e i)))) (he : (∀ j, j < n → e j = 0) → f (g n) = some (.inr fin)) (hN : n < N) :
    loopN f N (g 0) = some (errOr fin err (firstErr e n 0)) := by
  have key : ∀ k i, i + k = n → (∀ j, j < i → e j = 0) → ∀ M, k < M → loopN f M (g i) = some (errOr fin err (firstErr e k i)) := by
    intro k
    induction k with
    | zero =>
      intro i hi hz M hM
      obtain ⟨M, rfl⟩ : ∃ m, M = m + 1 := ⟨M - 1, by omega⟩
      have : i = n := by omega
      subst this
      simp only [loopN, he hz, firstErr]; rfl
    | succ k ih =>
      intro i hi hz M hM
      obtain ⟨M, rfl⟩ : ∃ m, M = m + 1 := ⟨M - 1, by omega⟩
      simp only [loopN, hf i (by omega) hz]
      by_cases h0 : e i = 0
      · rw [if_pos h0, firstErr_s0 h0]
        exact ih (i + 1) (by omega) (fun j hj => by
          rcases Nat.lt_succ_iff_lt_or_eq.1 hj with h | rfl
          · exact hz j h
          · exact h0) M (by omega)
      · rw [if_neg h0, firstErr_s1 h0]
        unfold errOr
        rw [if_neg h0]
  exact key n 0 (by omega) (fun j hj => absurd hj (Nat.not_lt_zero _)) N (by omega)
/- sums -/
def smI : List Int → Int
  | [] => 0
  | x :: r => x + smI r
theorem smI_app (l m : List Int) : smI (l ++ m) = smI l + smI m := by
  induction l with
  | nil => simp [smI]
  | cons x r ih => simp only [List.cons_append, smI, ih]; omega
theorem smI_take {l : List Int} {i : Nat} (h : i < l.length) : smI (l.take (i + 1)) = smI (l.take i) + l[i] := by
  rw [List.take_succ_eq_append_getElem h, smI_app]; simp [smI]
theorem smI_bd {l : List Int} {a b : Int} (h : ∀ x ∈ l, a ≤ x ∧ x ≤ b) : a * l.length ≤ smI l ∧ smI l ≤ b * l.length := by
  induction l with
  | nil => simp [smI]
  | cons x r ih =>
    obtain ⟨h1, h2⟩ := ih (fun y hy => h y (List.mem_cons_of_mem _ hy))
    obtain ⟨h3, h4⟩ := h x List.mem_cons_self
    simp only [smI, List.length_cons, Int.natCast_add, Int.mul_add]
    constructor <;> omega
theorem mulB {a b : Int} {A B : Nat} (ha : a.natAbs ≤ A) (hb : b.natAbs ≤ B) : (a * b).natAbs ≤ A * B := by rw [Int.natAbs_mul]; exact Nat.mul_le_mul ha hb
theorem bang {α : Type} [Inhabited α] {l : List α} {i : Nat} (h : i < l.length) : l[i]! = l[i] := by simp [h]
theorem idxB {α : Type} [Inhabited α] {l : List α} {i : Nat} (h : i < l.length) : idx l (i : Int) = some l[i]! := by rw [idx_nat h, bang h]
theorem idxP {α : Type} [Inhabited α] {l : List α} {i : Nat} (h : i < l.length) (h0 : i ≠ 0) (hl : l.length < 1000000) : idx l (IntKind.i64.wrap ((i : Int) - 1)) = some l[i - 1]! := by
  rw [w64i (by omega) (by omega), show (i : Int) - 1 = ((i - 1 : Nat) : Int) by omega, idxB (by omega)]
/- a loop that makes a list -/
theorem loop_map {α β : Type} {f : (List β × Int) → Option ((List β × Int) ⊕ List β)} {N : Nat} (l : List α) (g : α → β) (hf : ∀ (i : Nat) (hi : i < l.length) (acc : List β), acc.length = i → f (acc, (i : Int)) = some (.inl (acc ++ [g l[i]], ((i + 1 : Nat) : Int))))
    (he : ∀ acc, f (acc, (l.length : Int)) = some (.inr acc)) (hN : l.length < N) : loopN f N ([], 0) = some (l.map g) := by
  have := loopN_fold (f := f) l.length (fun i => (l.take i).map g) (l.map g) (fun i hi => by
    rw [hf i hi _ (by rw [List.length_map, List.length_take]; omega), List.take_succ_eq_append_getElem hi, List.map_append]; rfl) (by rw [List.take_length]; exact he _) N hN
  simpa using this
/- a loop that changes a list in its place -/
theorem loop_set {α : Type} {f : (List α × Int) → Option ((List α × Int) ⊕ List α)} {N m : Nat} (l : List α) (g : Nat → α) (hm : m ≤ l.length) (hf : ∀ (i : Nat) (hi : i < m) (x : List α), x.length = l.length → (∀ j, i ≤ j → x[j]? = l[j]?) → f (x, (i : Int)) = some (.inl (x.set i (g i), ((i + 1 : Nat) : Int))))
    (he : ∀ x, x.length = l.length → f (x, (m : Int)) = some (.inr x)) (hN : m < N) : loopN f N (l, 0) = some ((List.range m).map g ++ l.drop m) := by
  have hg : ∀ i, i ≤ m → ((List.range i).map g ++ l.drop i).length = l.length := fun i hi => by simp; omega
  have := loopN_fold (f := f) m (fun i => (List.range i).map g ++ l.drop i) ((List.range m).map g ++ l.drop m) (fun i hi => by
    rw [hf i hi _ (hg i (by omega)) (fun j hj => by
      rw [List.getElem?_append_right (by simp; omega)]; simp; congr 1; omega)]
    congr 3
    rw [List.range_succ, List.map_append, List.append_assoc, List.set_append_right _ _ (by simp)]
    congr 1
    simp only [List.length_map, List.length_range, Nat.sub_self]
    rw [List.drop_eq_getElem_cons (by omega)]
    rfl) (by rw [he _ (hg m (Nat.le_refl _))]) N hN
  simpa using this
theorem bnot_decide {p : Prop} [Decidable p] : (!decide p) = decide (¬p) := by rw [decide_not]
theorem bif_none_some {α : Type} {b : Bool} {x y : α} : (bif b then some x else some y) = some (bif b then x else y) := by cases b <;> rfl
theorem firstErr_nil : ∀ {k i : Nat}, firstErr (fun _ => 0) k i = 0 := by
  intro k
  induction k with
  | zero => intro i; rfl
  | succ n ih => intro i; rw [firstErr_s0 (e := fun _ => 0) rfl]; exact ih
end Go.KB
