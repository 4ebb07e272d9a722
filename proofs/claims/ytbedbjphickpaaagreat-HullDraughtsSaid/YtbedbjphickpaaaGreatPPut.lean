/- Plain laws: the levels of a ship, ascending, each once: of the program and of the reference. No condition. -/
import Derived.Test.YtbedbjphickpaaaGreatPZf
namespace Go.KB
set_option linter.unusedVariables false
set_option maxRecDepth 100000

/- the reference puts a number into an ascending list -/
def putL (x : Int) : List Int → List Int
  | [] => [x]
  | y :: l => if x < y then x :: y :: l else if x = y then y :: l else y :: putL x l
def goP (x : Int) : Bool → List Int → List Int × Bool
  | d, [] => ([], d)
  | true, y :: r => (y :: (goP x true r).1, true)
  | false, y :: r => if x ≤ y then ((if x < y then [x, y] else [y]) ++ (goP x true r).1, true) else (y :: (goP x false r).1, (goP x false r).2)
theorem goP_true (x : Int) : ∀ l, goP x true l = (l, true) := by
  intro l
  induction l with
  | nil => rfl
  | cons y l ih => rw [goP, ih]
theorem goP_put (x : Int) : ∀ l, (goP x false l).1 ++ (if (goP x false l).2 = true then [] else [x]) = putL x l := by
  intro l
  induction l with
  | nil => rfl
  | cons y l ih =>
    unfold goP putL
    by_cases h1 : x ≤ y
    · rw [if_pos h1, goP_true]
      by_cases h2 : x < y
      · rw [if_pos h2, if_pos h2]; simp
      · rw [if_neg h2, if_neg h2, if_pos (show x = y by omega)]; simp
    · rw [if_neg h1, if_neg (show ¬x < y by omega), if_neg (show ¬x = y by omega), ← ih]; rfl
theorem goP_len (x : Int) : ∀ d l, (goP x d l).1.length ≤ l.length + 1 := by
  intro d l
  induction l generalizing d with
  | nil => simp [goP]
  | cons y l ih =>
    cases d with
    | true => rw [goP_true]; simp
    | false =>
      unfold goP
      split
      · rw [goP_true]
        split <;> simp
      · have := ih false
        simp; omega
theorem put_loop {N : Nat} {l : List Int} {x : Int} (hl : l.length ≤ 1000000) : ∀ (k i : Nat), i + k = l.length → ∀ (d : Bool) (acc : List Int), acc.length ≤ i + (bif d then 1 else 0) → ∀ M, k < M →
    loopN (f_ref02_put_L1 N l x) M (acc, d, (i : Int)) = some (acc ++ (goP x d (l.drop i)).1, (goP x d (l.drop i)).2) := by
  intro k
  induction k with
  | zero =>
    intro i hi d acc ha M hM
    obtain ⟨M, rfl⟩ : ∃ m, M = m + 1 := ⟨M - 1, by omega⟩
    have : f_ref02_put_L1 N l x (acc, d, (i : Int)) = some (.inr (acc, d)) := by
      unfold f_ref02_put_L1
      simp only [cmp_lss]
      rw [dF (by omega)]; rfl
    simp only [loopN, this]
    rw [List.drop_eq_nil_of_le (by omega)]
    cases d <;> simp [goP]
  | succ k ih =>
    intro i hi d acc ha M hM
    obtain ⟨M, rfl⟩ : ∃ m, M = m + 1 := ⟨M - 1, by omega⟩
    have hil : i < l.length := by omega
    have ha' : acc.length ≤ i + 1 := by cases d <;> simp at ha <;> omega
    have hd : l.drop i = l[i]! :: l.drop (i + 1) := by rw [List.drop_eq_getElem_cons hil, bang hil]
    have step : f_ref02_put_L1 N l x (acc, d, (i : Int)) = some (.inl (bif !d && decide (x ≤ l[i]!) then (bif decide (x < l[i]!) then (acc ++ [x]) ++ [l[i]!] else acc ++ [l[i]!]) else acc ++ [l[i]!], d || decide (x ≤ l[i]!), ((i + 1 : Nat) : Int))) := by
      unfold f_ref02_put_L1
      simp only [cmp_lss, cmp_leq]
      have a1 : app acc [x] = some (acc ++ [x]) := app_ok (by simp; unfold lim; omega)
      have a2 : app acc [l[i]!] = some (acc ++ [l[i]!]) := app_ok (by simp; unfold lim; omega)
      have a3 : app (acc ++ [x]) [l[i]!] = some ((acc ++ [x]) ++ [l[i]!]) := app_ok (by simp; unfold lim; omega)
      rw [dT (by omega), cond_true, idxB hil, w64s (by omega)]
      cases d with
      | true => simp only [bS, Bool.not_true, Bool.false_and, cond_false, a2, Bool.true_or]
      | false =>
        simp only [Bool.not_false, cond_true, bS, Bool.true_and, Bool.false_or, a1, a2, a3]
        by_cases h1 : x ≤ l[i]!
        · rw [dT h1]
          by_cases h2 : x < l[i]!
          · rw [dT h2]; rfl
          · rw [dF h2]; rfl
        · rw [dF h1]; rfl
    simp only [loopN, step]
    rw [hd]
    cases d with
    | true =>
      simp only [Bool.not_true, Bool.false_and, cond_false, Bool.true_or]
      rw [ih (i + 1) (by omega) true _ (by simp; omega) M (by omega), goP_true, goP_true]
      simp
    | false =>
      simp only [Bool.not_false, Bool.true_and, Bool.false_or]
      unfold goP
      by_cases h1 : x ≤ l[i]!
      · rw [dT h1, if_pos h1, cond_true]
        by_cases h2 : x < l[i]!
        · rw [dT h2, if_pos h2, cond_true, goP_true]
          rw [ih (i + 1) (by omega) true _ (by simp at ha ⊢; omega) M (by omega), goP_true]; simp
        · rw [dF h2, if_neg h2, cond_false, ih (i + 1) (by omega) true _ (by simp at ha ⊢; omega) M (by omega), goP_true]; simp
      · rw [dF h1, if_neg h1, cond_false, ih (i + 1) (by omega) false _ (by simp at ha ⊢; omega) M (by omega)]; simp
theorem rput_eq {N : Nat} {l : List Int} {x : Int} (hl : l.length ≤ 1000) (hN : 2 ^ 64 ≤ N) : f_ref02_put N l x = some (putL x l) := by
  unfold f_ref02_put
  rw [show loopN (f_ref02_put_L1 N l x) N ([], false, 0) = _ from put_loop (N := N) (x := x) (by omega) l.length 0 (by omega) false [] (by simp) N (by omega), bS, List.drop_zero, List.nil_append, ← goP_put]
  have := goP_len x false l
  cases (goP x false l).2 with
  | true => simp
  | false => rw [Bool.not_false, cond_true, app_ok (by simp; unfold lim; omega)]; rfl
theorem putL_mem {x z : Int} : ∀ {l : List Int}, z ∈ putL x l ↔ z = x ∨ z ∈ l := by
  intro l
  induction l with
  | nil => simp [putL]
  | cons y l ih =>
    unfold putL
    split
    · simp
    · split
      · rename_i h; subst h; simp
      · rw [List.mem_cons, ih, List.mem_cons]
        constructor
        · rintro (h | h | h) <;> simp [h]
        · rintro (h | h | h) <;> simp [h]
theorem putL_asc {x : Int} : ∀ {l : List Int}, l.Pairwise (· < ·) → (putL x l).Pairwise (· < ·) := by
  intro l
  induction l with
  | nil => intro _; simp [putL]
  | cons y l ih =>
    intro h
    obtain ⟨h1, h2⟩ := List.pairwise_cons.1 h
    unfold putL
    split
    · rename_i hxy
      refine List.pairwise_cons.2 ⟨fun z hz => ?_, h⟩
      rcases List.mem_cons.1 hz with rfl | hz
      · exact hxy
      · have := h1 z hz; omega
    · split
      · exact h
      · refine List.pairwise_cons.2 ⟨fun z hz => ?_, ih h2⟩
        rcases putL_mem.1 hz with rfl | hz
        · omega
        · exact h1 z hz
theorem putL_len {x : Int} : ∀ {l : List Int}, (putL x l).length ≤ l.length + 1 := by
  intro l
  induction l with
  | nil => simp [putL]
  | cons y l ih => unfold putL; split <;> (try split) <;> simp; exact ih
/- strictly ascending lists with the same members are the same -/
theorem asc_ext : ∀ {l m : List Int}, l.Pairwise (· < ·) → m.Pairwise (· < ·) → (∀ z, z ∈ l ↔ z ∈ m) → l = m := by
  intro l
  induction l with
  | nil => intro m _ _ h; cases m with
    | nil => rfl
    | cons y m => have := (h y).2 List.mem_cons_self; cases this
  | cons x l ih =>
    intro m hl hm h
    cases m with
    | nil => have := (h x).1 List.mem_cons_self; cases this
    | cons y m =>
      obtain ⟨l1, l2⟩ := List.pairwise_cons.1 hl
      obtain ⟨m1, m2⟩ := List.pairwise_cons.1 hm
      have hxy : x = y := by
        rcases List.mem_cons.1 ((h x).1 List.mem_cons_self) with e | hx
        · exact e
        · rcases List.mem_cons.1 ((h y).2 List.mem_cons_self) with e | hy
          · exact e.symm
          · have := m1 x hx; have := l1 y hy; omega
      subst hxy
      rw [ih l2 m2 fun z => ?_]
      constructor
      · intro hz
        rcases List.mem_cons.1 ((h z).1 (List.mem_cons_of_mem _ hz)) with rfl | h'
        · have := l1 z hz; omega
        · exact h'
      · intro hz
        rcases List.mem_cons.1 ((h z).2 (List.mem_cons_of_mem _ hz)) with rfl | h'
        · have := m1 z hz; omega
        · exact h'
end Go.KB
