/- Plain laws of chapter 7: loops, names, sets of names. No condition. -/
import Derived.Test.YtipapjkpbnjkmaaGreatDoorPZa
import Derived.Test.YtipapjkpbnjkmaaGreatDoorGPure
namespace Go.KB
set_option linter.unusedVariables false
theorem jDb {n : Int} (h0 : -9223372036854775808 ≤ n) (h1 : n ≤ 9223372036854775807) : IntKind.i64.wrap n = n := jSn h0 h1
theorem dT {p : Prop} [Decidable p] (h : p) : decide p = true := decide_eq_true h
theorem dF {p : Prop} [Decidable p] (h : ¬p) : decide p = false := decide_eq_false h
def jVe (e : Nat → Int) : Nat → Nat → Int
 | 0, _ => 0
 | k + 1, i => if e i = 0 then jVe e k (i + 1) else e i
theorem jRh {e : Nat → Int} : ∀ {k i : Nat}, jVe e k i = 0 → ∀ j, i ≤ j → j < i + k → e j = 0 := by
 intro k
 induction k with
 | zero => intro i _ j h1 h2; omega
 | succ k ih =>
  intro i h j h1 h2
  simp only [jVe] at h
  split at h
  ·rename_i h0
   rcases Nat.eq_or_lt_of_le h1 with rfl | h1
   ·exact h0
   ·exact ih h j h1 (by omega)
  ·rename_i h0; exact absurd h h0
def jRp {O : Type} (fin : O) (err : Int → O) (z : Int) : O := if z = 0 then fin else err z
theorem jB6 {e : Nat → Int} {k i : Nat} (h : e i = 0) : jVe e (k + 1) i = jVe e k (i + 1) := by simp [jVe, h]
theorem jFs {e : Nat → Int} {k i : Nat} (h : e i ≠ 0) : jVe e (k + 1) i = e i := by simp [jVe, h]
theorem qYw {O : Type} {n N : Nat} {f : Int → Option (Int ⊕ O)} {e : Nat → Int} {fin : O} {err : Int → O} (hf : ∀ i : Nat, i < n → (∀ j, j < i → e j = 0) → f (i : Int) = if e i = 0 then some (.inl ((i + 1 : Nat) : Int)) else some (.inr (err (e i)))) (he : (∀ j, j < n → e j = 0) → f (n : Int) = some (.inr fin)) (hN : n < N) :
  jZw f N 0 = some (jRp fin err (jVe e n 0)) := by
 have key : ∀ k i, i + k = n → (∀ j, j < i → e j = 0) → ∀ M, k < M → jZw f M (i : Int) = some (jRp fin err (jVe e k i)) := by
  intro k
  induction k with
  | zero =>
   intro i hi hz M hM
   obtain ⟨M, rfl⟩ : ∃ m, M = m + 1 := ⟨M - 1, by omega⟩
   have : i = n := by omega
   subst this
   simp only [jZw, he hz, jVe]; rfl
  | succ k ih =>
   intro i hi hz M hM
   obtain ⟨M, rfl⟩ : ∃ m, M = m + 1 := ⟨M - 1, by omega⟩
   simp only [jZw, hf i (by omega) hz]
   by_cases h0 : e i = 0
   ·rw [if_pos h0, jB6 h0]
    exact ih (i + 1) (by omega) (fun j hj => by
     rcases Nat.lt_succ_iff_lt_or_eq.1 hj with h | rfl
     ·exact hz j h
     ·exact h0) M (by omega)
   ·rw [if_neg h0, jFs h0]
    unfold jRp
    rw [if_neg h0]
 exact key n 0 (by omega) (fun j hj => absurd hj (Nat.not_lt_zero _)) N (by omega)
theorem qVg {n N : Nat} {f : Int → Option (Int ⊕ (Unit ⊕ Int))} {e : Nat → Int} (hf : ∀ i : Nat, i < n → (∀ j, j < i → e j = 0) → f (i : Int) = if e i = 0 then some (.inl ((i + 1 : Nat) : Int)) else some (.inr (.inr (e i)))) (he : (∀ j, j < n → e j = 0) → f (n : Int) = some (.inr (.inl ()))) (hN : n < N) :
  ((jZw f N 0).bind fun o => Sum.elim (fun _ => some (0 : Int)) (fun r => some r) o) = some (jVe e n 0) := by
 rw [qYw hf he hN]
 unfold jRp
 by_cases h : jVe e n 0 = 0
 ·rw [if_pos h, bS, h]; rfl
 ·rw [if_neg h]; rfl
theorem jTb {S O : Type} {n N : Nat} {f : S → Option (S ⊕ O)} {e : Nat → Int} {fin : O} {err : Int → O} (g : Nat → S) (hf : ∀ i : Nat, i < n → (∀ j, j < i → e j = 0) → f (g i) = if e i = 0 then some (.inl (g (i + 1))) else some (.inr (err (e i)))) (he : (∀ j, j < n → e j = 0) → f (g n) = some (.inr fin)) (hN : n < N) :
  jZw f N (g 0) = some (jRp fin err (jVe e n 0)) := by
 have key : ∀ k i, i + k = n → (∀ j, j < i → e j = 0) → ∀ M, k < M → jZw f M (g i) = some (jRp fin err (jVe e k i)) := by
  intro k
  induction k with
  | zero =>
   intro i hi hz M hM
   obtain ⟨M, rfl⟩ : ∃ m, M = m + 1 := ⟨M - 1, by omega⟩
   have : i = n := by omega
   subst this
   simp only [jZw, he hz, jVe]; rfl
  | succ k ih =>
   intro i hi hz M hM
   obtain ⟨M, rfl⟩ : ∃ m, M = m + 1 := ⟨M - 1, by omega⟩
   simp only [jZw, hf i (by omega) hz]
   by_cases h0 : e i = 0
   ·rw [if_pos h0, jB6 h0]
    exact ih (i + 1) (by omega) (fun j hj => by
     rcases Nat.lt_succ_iff_lt_or_eq.1 hj with h | rfl
     ·exact hz j h
     ·exact h0) M (by omega)
   ·rw [if_neg h0, jFs h0]
    unfold jRp
    rw [if_neg h0]
 exact key n 0 (by omega) (fun j hj => absurd hj (Nat.not_lt_zero _)) N (by omega)
def smI : List Int → Int
 | [] => 0
 | x :: r => x + smI r
theorem qUn (l m : List Int) : smI (l ++ m) = smI l + smI m := by
 induction l with
 | nil => simp [smI]
 | cons x r ih => simp only [List.cons_append, smI, ih]; omega
theorem smI_bd {l : List Int} {a b : Int} (h : ∀ x ∈ l, a ≤ x ∧ x ≤ b) : a * l.length ≤ smI l ∧ smI l ≤ b * l.length := by
 induction l with
 | nil => simp [smI]
 | cons x r ih =>
  obtain ⟨h1, h2⟩ := ih (fun y hy => h y (List.mem_cons_of_mem _ hy))
  obtain ⟨h3, h4⟩ := h x List.mem_cons_self
  simp only [smI, List.length_cons, Int.natCast_add, Int.mul_add]
  constructor <;> omega
theorem jRg {α : Type} [Inhabited α] {l : List α} {i : Nat} (h : i < l.length) : l[i]! = l[i] := by simp [h]
theorem qKx {α : Type} [Inhabited α] {l : List α} {i : Nat} (h : i < l.length) : idx l (i : Int) = some l[i]! := by rw [jKl h, jRg h]
theorem qW2 {α : Type} {f : (List α × Int) → Option ((List α × Int) ⊕ List α)} {N m : Nat} (l : List α) (g : Nat → α) (hm : m ≤ l.length) (hf : ∀ (i : Nat) (hi : i < m) (x : List α), x.length = l.length → (∀ j, i ≤ j → x[j]? = l[j]?) → f (x, (i : Int)) = some (.inl (x.set i (g i), ((i + 1 : Nat) : Int))))
  (he : ∀ x, x.length = l.length → f (x, (m : Int)) = some (.inr x)) (hN : m < N) : jZw f N (l, 0) = some ((List.range m).map g ++ l.drop m) := by
 have hg : ∀ i, i ≤ m → ((List.range i).map g ++ l.drop i).length = l.length := fun i hi => by simp; omega
 have := jU3 (f := f) m (fun i => (List.range i).map g ++ l.drop i) ((List.range m).map g ++ l.drop m) (fun i hi => by
  rw [hf i hi _ (hg i (by omega)) (fun j hj => by
   rw [List.getElem?_append_right (by simp; omega)]; simp; congr 1; omega)]
  congr 3
  rw [List.range_succ, List.map_append, List.append_assoc, List.set_append_right _ _ (by simp)]
  congr 1
  simp only [List.length_map, List.length_range, Nat.sub_self]
  rw [List.drop_eq_getElem_cons (by omega)]
  rfl) (by rw [he _ (hg m (Nat.le_refl _))]) N hN
 simpa using this
theorem jMg : ∀ {k i : Nat}, jVe (fun _ => 0) k i = 0 := by
 intro k
 induction k with
 | zero => intro i; rfl
 | succ n ih => intro i; rw [jB6 (e := fun _ => 0) rfl]; exact ih
theorem jGa {α β : Type} [DecidableEq α] (z : β) (x k : α) (y : β) : ∀ m : List (α × β), jXm z (jHg m x y) k = if k = x then y else jXm z m k
 | [] => by
  by_cases h : k = x
  ·subst h; simp [jXm, jHg]
  ·simp [jXm, jHg, h]
 | p :: r => by
  by_cases hp : x = p.1
  ·subst hp
   by_cases h : k = p.1
   ·subst h; simp [jXm, jHg]
   ·simp [jXm, jHg, h]
  ·by_cases h : k = p.1
   ·subst h; simp [jXm, jHg, hp, Ne.symm hp]
   ·simp [jXm, jHg, hp, h, jGa z x k y r]
theorem jVf (a b : Str) : jXn .eql a b = decide (a = b) := by
 unfold jXn
 rw [Bool.eq_iff_iff]
 simp
theorem jH3 (a b : Str) : jXn .neq a b = !decide (a = b) := by
 rw [← jVf]; rfl
def same (nm : Nat → Str) (x : Str) (j : Nat) : Int := if nm j = x then 5 else 0
theorem jCj {e : Nat → Int} : ∀ {k i : Nat}, jVe e k i ≠ 0 → ∃ j, i ≤ j ∧ j < i + k ∧ jVe e k i = e j ∧ e j ≠ 0 ∧ ∀ m, i ≤ m → m < j → e m = 0 := by
 intro k
 induction k with
 | zero => intro i h; exact absurd rfl h
 | succ k ih =>
  intro i h
  by_cases h0 : e i = 0
  ·rw [jB6 h0] at h ⊢
   obtain ⟨j, h1, h2, h3, h4, h5⟩ := ih h
   refine ⟨j, by omega, by omega, h3, h4, fun m hm hj => ?_⟩
   by_cases hmi : m = i
   ·subst hmi; exact h0
   ·exact h5 m (by omega) hj
  ·rw [jFs h0]; exact ⟨i, by omega, by omega, rfl, h0, fun m hm hj => by omega⟩
def qZx (x0 : Str) (s1 : Int) : Option (Int ⊕ (Unit ⊕ Bool)) :=
 bif (jJb .lss s1 (List.length x0 : Int)) then ((idx x0 s1).bind fun v2 => bif ((!(((jJb .geq ((UInt8.toNat v2 : Nat) : Int) 97) && (jJb .leq ((UInt8.toNat v2 : Nat) : Int) 122)) || ((jJb .geq ((UInt8.toNat v2 : Nat) : Int) 65) && (jJb .leq ((UInt8.toNat v2 : Nat) : Int) 90)))) && ((jJb .eql s1 0) || ((jJb .neq ((UInt8.toNat v2 : Nat) : Int) 45) && ((jJb .lss ((UInt8.toNat v2 : Nat) : Int) 48) || (jJb .gtr ((UInt8.toNat v2 : Nat) : Int) 57))))) then (some (.inr (Sum.inr false))) else (some (.inl (IntKind.i64.wrap (s1 + 1))))) else (some (.inr (Sum.inl ())))
def qK4 (N : Nat) (x0 : Str) : Option (Bool) :=
 bif ((jJb .lss (List.length x0 : Int) 1) || (jJb .gtr (List.length x0 : Int) 12)) then (some false) else ((jZw (qZx x0) N 0).bind fun o5 => Sum.elim (fun l7 => some true) (fun r8 => some r8) o5)
theorem jAg {N : Nat} {s : Str} (hN : 13 ≤ N) : qK4 N s = some (jUf s) := by
  unfold qK4
  by_cases hlen : s.length < 1 ∨ 12 < s.length
  · have hc : (jJb .lss (s.length : Int) 1 || jJb .gtr (s.length : Int) 12) = true := by
      simp; omega
    rw [hc, cnT]
    congr 1
    unfold jUf
    rcases hlen with h | h
    · have : s = [] := List.eq_nil_of_length_eq_zero (by omega)
      subst this; rfl
    · cases s with
      | nil => rfl
      | cons c r => simp at h; simp; intro h'; omega
  · have hc : (jJb .lss (s.length : Int) 1 || jJb .gtr (s.length : Int) 12) = false := by
      rw [Bool.or_eq_false_iff]; simp; omega
    rw [hc, cnF]
    cases s with
    | nil => simp at hlen
    | cons c r =>
      have hr : r.length < 12 := by simp at hlen; omega
      have hbad : ∀ i (hi : i < (c :: r).length), ((!(((jJb .geq ((UInt8.toNat (c :: r)[i] : Nat) : Int) 97) && (jJb .leq ((UInt8.toNat (c :: r)[i] : Nat) : Int) 122)) || ((jJb .geq ((UInt8.toNat (c :: r)[i] : Nat) : Int) 65) && (jJb .leq ((UInt8.toNat (c :: r)[i] : Nat) : Int) 90)))) && ((jJb .eql (i : Int) 0) || ((jJb .neq ((UInt8.toNat (c :: r)[i] : Nat) : Int) 45) && ((jJb .lss ((UInt8.toNat (c :: r)[i] : Nat) : Int) 48) || (jJb .gtr ((UInt8.toNat (c :: r)[i] : Nat) : Int) 57))))) =
          !(if i = 0 then jH2 (c :: r)[i] else jHu (c :: r)[i]) := by
        intro i hi
        split
        · rename_i h0; subst h0
          simp only [jV1, Int.natCast_zero, decide_true, Bool.true_or, Bool.and_true]
          rfl
        · rename_i h0
          rw [jV1, show decide ((i : Int) = 0) = false by rw [decide_eq_false_iff_not]; omega, Bool.false_or]
          unfold jHu jH2 chr
          simp only [jYl, jQa, jY9, jB9, jBu]
          generalize ((UInt8.toNat (c :: r)[i] : Nat) : Int) = x
          rw [Bool.eq_iff_iff]
          simp only [Bool.and_eq_true, Bool.or_eq_true, Bool.not_eq_true', Bool.or_eq_false_iff, Bool.and_eq_false_iff, decide_eq_true_eq, decide_eq_false_iff_not]
          omega
      rw [jC8 (c :: r).length (if jUf (c :: r) then .inl () else .inr false) (fun i => ∀ j (h : j < (c :: r).length), j < i → (if j = 0 then jH2 (c :: r)[j] else jHu (c :: r)[j]) = true) ?_ ?_ (fun j _ h => absurd h (Nat.not_lt_zero _)) N (by simp; omega)]
      · cases jUf (c :: r) <;> rfl
      · intro i hi hp
        unfold qZx
        rw [jQa, show decide ((i : Int) < ((c :: r).length : Int)) = true by rw [decide_eq_true_eq]; omega, cnT, jKl hi, bS, hbad i hi, jP8 (show i < 9223372036854775807 by simp at hi; omega)]
        cases hg : (if i = 0 then jH2 (c :: r)[i] else jHu (c :: r)[i]) with
        | true =>
          refine .inl ⟨rfl, fun j hj hji => ?_⟩
          rcases Nat.lt_succ_iff_lt_or_eq.1 hji with h | rfl
          · exact hp j hj h
          · exact hg
        | false =>
          refine .inr ?_
          have : jUf (c :: r) = false := by
            rw [Bool.eq_false_iff]
            intro h
            simp only [jUf, Bool.and_eq_true, decide_eq_true_eq] at h
            obtain ⟨⟨_, h1⟩, h2⟩ := h
            rw [List.all_eq_true] at h2
            cases i with
            | zero => simp [h1] at hg
            | succ i =>
              simp at hg
              have := h2 _ (List.getElem_mem (by simpa using hi : i < r.length))
              rw [this] at hg; cases hg
          rw [this]; rfl
      · intro hp
        unfold qZx
        rw [jQa, show decide ((((c :: r).length : Nat) : Int) < ((c :: r).length : Int)) = false by simp, cnF]
        have : jUf (c :: r) = true := by
          simp only [jUf, Bool.and_eq_true, decide_eq_true_eq]
          refine ⟨⟨hr, (by have h := hp 0 (by simp) (by simp); rw [if_pos rfl] at h; exact h)⟩, ?_⟩
          rw [List.all_eq_true]
          intro x hx
          obtain ⟨j, hj, rfl⟩ := List.getElem_of_mem hx
          have := hp (j + 1) (by simp; omega) (by simp; omega)
          simpa using this
        rw [this]; rfl
theorem qQ8 {N : Nat} {s : Str} (hN : 13 ≤ N) : jHw N s = some (jUf s) := jAg hN
end Go.KB
