/- Plain laws: the levels of a ship, ascending, each once: of the program and of the reference. No condition. -/
import Derived.Test.YtoiefhkiipolmaaGreatPZf
namespace Go.KB
set_option linter.unusedVariables false
set_option maxRecDepth 100000

/- the reference puts a number into an ascending list -/
def qQ0 (x : Int) : List Int → List Int
  | [] => [x]
  | y :: l => if x < y then x :: y :: l else if x = y then y :: l else y :: qQ0 x l
def goP (x : Int) : Bool → List Int → List Int × Bool
  | d, [] => ([], d)
  | true, y :: r => (y :: (goP x true r).1, true)
  | false, y :: r => if x ≤ y then ((if x < y then [x, y] else [y]) ++ (goP x true r).1, true) else (y :: (goP x false r).1, (goP x false r).2)
theorem jF5 (x : Int) : ∀ l, goP x true l = (l, true) := by
  intro l
  induction l with
  | nil => rfl
  | cons y l ih => rw [goP, ih]
theorem qB6 (x : Int) : ∀ l, (goP x false l).1 ++ (if (goP x false l).2 = true then [] else [x]) = qQ0 x l := by
  intro l
  induction l with
  | nil => rfl
  | cons y l ih =>
    unfold goP qQ0
    by_cases h1 : x ≤ y
    · rw [if_pos h1, jF5]
      by_cases h2 : x < y
      · rw [if_pos h2, if_pos h2]; simp
      · rw [if_neg h2, if_neg h2, if_pos (show x = y by omega)]; simp
    · rw [if_neg h1, if_neg (show ¬x < y by omega), if_neg (show ¬x = y by omega), ← ih]; rfl
theorem qB9 (x : Int) : ∀ d l, (goP x d l).1.length ≤ l.length + 1 := by
  intro d l
  induction l generalizing d with
  | nil => simp [goP]
  | cons y l ih =>
    cases d with
    | true => rw [jF5]; simp
    | false =>
      unfold goP
      split
      · rw [jF5]
        split <;> simp
      · have := ih false
        simp; omega
theorem qG0 {N : Nat} {l : List Int} {x : Int} (hl : l.length ≤ 1000000) : ∀ (k i : Nat), i + k = l.length → ∀ (d : Bool) (acc : List Int), acc.length ≤ i + (bif d then 1 else 0) → ∀ M, k < M →
    jQ7 (jWd N l x) M (acc, d, (i : Int)) = some (acc ++ (goP x d (l.drop i)).1, (goP x d (l.drop i)).2) := by
  intro k
  induction k with
  | zero =>
    intro i hi d acc ha M hM
    obtain ⟨M, rfl⟩ : ∃ m, M = m + 1 := ⟨M - 1, by omega⟩
    have : jWd N l x (acc, d, (i : Int)) = some (.inr (acc, d)) := by
      unfold jWd
      simp only [jQy]
      rw [dF (by omega)]; rfl
    simp only [jQ7, this]
    rw [List.drop_eq_nil_of_le (by omega)]
    cases d <;> simp [goP]
  | succ k ih =>
    intro i hi d acc ha M hM
    obtain ⟨M, rfl⟩ : ∃ m, M = m + 1 := ⟨M - 1, by omega⟩
    have hil : i < l.length := by omega
    have ha' : acc.length ≤ i + 1 := by cases d <;> simp at ha <;> omega
    have hd : l.drop i = l[i]! :: l.drop (i + 1) := by rw [List.drop_eq_getElem_cons hil, qXt hil]
    have step : jWd N l x (acc, d, (i : Int)) = some (.inl (bif !d && decide (x ≤ l[i]!) then (bif decide (x < l[i]!) then (acc ++ [x]) ++ [l[i]!] else acc ++ [l[i]!]) else acc ++ [l[i]!], d || decide (x ≤ l[i]!), ((i + 1 : Nat) : Int))) := by
      unfold jWd
      simp only [jQy, jD2]
      have a1 : app acc [x] = some (acc ++ [x]) := jK8 (by simp; unfold lim; omega)
      have a2 : app acc [l[i]!] = some (acc ++ [l[i]!]) := jK8 (by simp; unfold lim; omega)
      have a3 : app (acc ++ [x]) [l[i]!] = some ((acc ++ [x]) ++ [l[i]!]) := jK8 (by simp; unfold lim; omega)
      rw [dT (by omega), cnT, jP3 hil, jLn (by omega)]
      cases d with
      | true => simp only [bS, Bool.not_true, Bool.false_and, cnF, a2, Bool.true_or]
      | false =>
        simp only [Bool.not_false, cnT, bS, Bool.true_and, Bool.false_or, a1, a2, a3]
        by_cases h1 : x ≤ l[i]!
        · rw [dT h1]
          by_cases h2 : x < l[i]!
          · rw [dT h2]; rfl
          · rw [dF h2]; rfl
        · rw [dF h1]; rfl
    simp only [jQ7, step]
    rw [hd]
    cases d with
    | true =>
      simp only [Bool.not_true, Bool.false_and, cnF, Bool.true_or]
      rw [ih (i + 1) (by omega) true _ (by simp; omega) M (by omega), jF5, jF5]
      simp
    | false =>
      simp only [Bool.not_false, Bool.true_and, Bool.false_or]
      unfold goP
      by_cases h1 : x ≤ l[i]!
      · rw [dT h1, if_pos h1, cnT]
        by_cases h2 : x < l[i]!
        · rw [dT h2, if_pos h2, cnT, jF5]
          rw [ih (i + 1) (by omega) true _ (by simp at ha ⊢; omega) M (by omega), jF5]; simp
        · rw [dF h2, if_neg h2, cnF, ih (i + 1) (by omega) true _ (by simp at ha ⊢; omega) M (by omega), jF5]; simp
      · rw [dF h1, if_neg h1, cnF, ih (i + 1) (by omega) false _ (by simp at ha ⊢; omega) M (by omega)]; simp
theorem qUj {N : Nat} {l : List Int} {x : Int} (hl : l.length ≤ 1000) (hN : 2 ^ 64 ≤ N) : jDj N l x = some (qQ0 x l) := by
  unfold jDj
  rw [show jQ7 (jWd N l x) N ([], false, 0) = _ from qG0 (N := N) (x := x) (by omega) l.length 0 (by omega) false [] (by simp) N (by omega), bS, List.drop_zero, List.nil_append, ← qB6]
  have := qB9 x false l
  cases (goP x false l).2 with
  | true => simp
  | false => rw [Bool.not_false, cnT, jK8 (by simp; unfold lim; omega)]; rfl
theorem qVm {x z : Int} : ∀ {l : List Int}, z ∈ qQ0 x l ↔ z = x ∨ z ∈ l := by
  intro l
  induction l with
  | nil => simp [qQ0]
  | cons y l ih =>
    unfold qQ0
    split
    · simp
    · split
      · rename_i h; subst h; simp
      · rw [List.mem_cons, ih, List.mem_cons]
        constructor
        · rintro (h | h | h) <;> simp [h]
        · rintro (h | h | h) <;> simp [h]
theorem qG4 {x : Int} : ∀ {l : List Int}, l.Pairwise (· < ·) → (qQ0 x l).Pairwise (· < ·) := by
  intro l
  induction l with
  | nil => intro _; simp [qQ0]
  | cons y l ih =>
    intro h
    obtain ⟨h1, h2⟩ := List.pairwise_cons.1 h
    unfold qQ0
    split
    · rename_i hxy
      refine List.pairwise_cons.2 ⟨fun z hz => ?_, h⟩
      rcases List.mem_cons.1 hz with rfl | hz
      · exact hxy
      · have := h1 z hz; omega
    · split
      · exact h
      · refine List.pairwise_cons.2 ⟨fun z hz => ?_, ih h2⟩
        rcases qVm.1 hz with rfl | hz
        · omega
        · exact h1 z hz
theorem qHc {x : Int} : ∀ {l : List Int}, (qQ0 x l).length ≤ l.length + 1 := by
  intro l
  induction l with
  | nil => simp [qQ0]
  | cons y l ih => unfold qQ0; split <;> (try split) <;> simp; exact ih
/- strictly ascending lists with the same members are the same -/
theorem qDh : ∀ {l m : List Int}, l.Pairwise (· < ·) → m.Pairwise (· < ·) → (∀ z, z ∈ l ↔ z ∈ m) → l = m := by
  intro l
  induction l with
  | nil => intro m _ _ h; cases m with
    | nil => rfl
    | cons y m => have := (h y).2 List.mem_cons_self; cases this
  | cons x l ih =>
    intro m hl hm h
    cases m with
    | nil => have := (h x).1 List.mem_cons_self; cases this
    | cons y m =>
      obtain ⟨l1, l2⟩ := List.pairwise_cons.1 hl
      obtain ⟨m1, m2⟩ := List.pairwise_cons.1 hm
      have hxy : x = y := by
        rcases List.mem_cons.1 ((h x).1 List.mem_cons_self) with e | hx
        · exact e
        · rcases List.mem_cons.1 ((h y).2 List.mem_cons_self) with e | hy
          · exact e.symm
          · have := m1 x hx; have := l1 y hy; omega
      subst hxy
      rw [ih l2 m2 fun z => ?_]
      constructor
      · intro hz
        rcases List.mem_cons.1 ((h z).1 (List.mem_cons_of_mem _ hz)) with rfl | h'
        · have := l1 z hz; omega
        · exact h'
      · intro hz
        rcases List.mem_cons.1 ((h z).2 (List.mem_cons_of_mem _ hz)) with rfl | h'
        · have := m1 z hz; omega
        · exact h'
end Go.KB
