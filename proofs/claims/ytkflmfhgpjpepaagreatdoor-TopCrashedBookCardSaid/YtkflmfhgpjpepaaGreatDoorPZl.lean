/- Plain laws of chapter 7: loops, names, sets of names. No condition. -/
import Derived.Test.YtkflmfhgpjpepaaGreatDoorPZa
import Derived.Test.YtkflmfhgpjpepaaGreatDoorGPure
namespace Go.KB
set_option linter.unusedVariables false
theorem jBk {n : Int} (h0 : -9223372036854775808 ≤ n) (h1 : n ≤ 9223372036854775807) : IntKind.i64.wrap n = n := jTm h0 h1
theorem dT {p : Prop} [Decidable p] (h : p) : decide p = true := decide_eq_true h
theorem dF {p : Prop} [Decidable p] (h : ¬p) : decide p = false := decide_eq_false h
def jVm (e : Nat → Int) : Nat → Nat → Int
 | 0, _ => 0
 | k + 1, i => if e i = 0 then jVm e k (i + 1) else e i
theorem jR8 {e : Nat → Int} : ∀ {k i : Nat}, jVm e k i = 0 → ∀ j, i ≤ j → j < i + k → e j = 0 := by
 intro k
 induction k with
 | zero => intro i _ j h1 h2; omega
 | succ k ih =>
  intro i h j h1 h2
  simp only [jVm] at h
  split at h
  ·rename_i h0
   rcases Nat.eq_or_lt_of_le h1 with rfl | h1
   ·exact h0
   ·exact ih h j h1 (by omega)
  ·rename_i h0; exact absurd h h0
def jRr {O : Type} (fin : O) (err : Int → O) (z : Int) : O := if z = 0 then fin else err z
theorem jDv {e : Nat → Int} {k i : Nat} (h : e i = 0) : jVm e (k + 1) i = jVm e k (i + 1) := by simp [jVm, h]
theorem jFe {e : Nat → Int} {k i : Nat} (h : e i ≠ 0) : jVm e (k + 1) i = e i := by simp [jVm, h]
theorem qWp {O : Type} {n N : Nat} {f : Int → Option (Int ⊕ O)} {e : Nat → Int} {fin : O} {err : Int → O} (hf : ∀ i : Nat, i < n → (∀ j, j < i → e j = 0) → f (i : Int) = if e i = 0 then some (.inl ((i + 1 : Nat) : Int)) else some (.inr (err (e i)))) (he : (∀ j, j < n → e j = 0) → f (n : Int) = some (.inr fin)) (hN : n < N) :
  jZq f N 0 = some (jRr fin err (jVm e n 0)) := by
 have key : ∀ k i, i + k = n → (∀ j, j < i → e j = 0) → ∀ M, k < M → jZq f M (i : Int) = some (jRr fin err (jVm e k i)) := by
  intro k
  induction k with
  | zero =>
   intro i hi hz M hM
   obtain ⟨M, rfl⟩ : ∃ m, M = m + 1 := ⟨M - 1, by omega⟩
   have : i = n := by omega
   subst this
   simp only [jZq, he hz, jVm]; rfl
  | succ k ih =>
   intro i hi hz M hM
   obtain ⟨M, rfl⟩ : ∃ m, M = m + 1 := ⟨M - 1, by omega⟩
   simp only [jZq, hf i (by omega) hz]
   by_cases h0 : e i = 0
   ·rw [if_pos h0, jDv h0]
    exact ih (i + 1) (by omega) (fun j hj => by
     rcases Nat.lt_succ_iff_lt_or_eq.1 hj with h | rfl
     ·exact hz j h
     ·exact h0) M (by omega)
   ·rw [if_neg h0, jFe h0]
    unfold jRr
    rw [if_neg h0]
 exact key n 0 (by omega) (fun j hj => absurd hj (Nat.not_lt_zero _)) N (by omega)
theorem jSy {n N : Nat} {f : Int → Option (Int ⊕ (Unit ⊕ Int))} {e : Nat → Int} (hf : ∀ i : Nat, i < n → (∀ j, j < i → e j = 0) → f (i : Int) = if e i = 0 then some (.inl ((i + 1 : Nat) : Int)) else some (.inr (.inr (e i)))) (he : (∀ j, j < n → e j = 0) → f (n : Int) = some (.inr (.inl ()))) (hN : n < N) :
  ((jZq f N 0).bind fun o => Sum.elim (fun _ => some (0 : Int)) (fun r => some r) o) = some (jVm e n 0) := by
 rw [qWp hf he hN]
 unfold jRr
 by_cases h : jVm e n 0 = 0
 ·rw [if_pos h, bS, h]; rfl
 ·rw [if_neg h]; rfl
theorem jSu {S O : Type} {n N : Nat} {f : S → Option (S ⊕ O)} {e : Nat → Int} {fin : O} {err : Int → O} (g : Nat → S) (hf : ∀ i : Nat, i < n → (∀ j, j < i → e j = 0) → f (g i) = if e i = 0 then some (.inl (g (i + 1))) else some (.inr (err (e i)))) (he : (∀ j, j < n → e j = 0) → f (g n) = some (.inr fin)) (hN : n < N) :
  jZq f N (g 0) = some (jRr fin err (jVm e n 0)) := by
 have key : ∀ k i, i + k = n → (∀ j, j < i → e j = 0) → ∀ M, k < M → jZq f M (g i) = some (jRr fin err (jVm e k i)) := by
  intro k
  induction k with
  | zero =>
   intro i hi hz M hM
   obtain ⟨M, rfl⟩ : ∃ m, M = m + 1 := ⟨M - 1, by omega⟩
   have : i = n := by omega
   subst this
   simp only [jZq, he hz, jVm]; rfl
  | succ k ih =>
   intro i hi hz M hM
   obtain ⟨M, rfl⟩ : ∃ m, M = m + 1 := ⟨M - 1, by omega⟩
   simp only [jZq, hf i (by omega) hz]
   by_cases h0 : e i = 0
   ·rw [if_pos h0, jDv h0]
    exact ih (i + 1) (by omega) (fun j hj => by
     rcases Nat.lt_succ_iff_lt_or_eq.1 hj with h | rfl
     ·exact hz j h
     ·exact h0) M (by omega)
   ·rw [if_neg h0, jFe h0]
    unfold jRr
    rw [if_neg h0]
 exact key n 0 (by omega) (fun j hj => absurd hj (Nat.not_lt_zero _)) N (by omega)
def smI : List Int → Int
 | [] => 0
 | x :: r => x + smI r
theorem qUm (l m : List Int) : smI (l ++ m) = smI l + smI m := by
 induction l with
 | nil => simp [smI]
 | cons x r ih => simp only [List.cons_append, smI, ih]; omega
theorem smI_bd {l : List Int} {a b : Int} (h : ∀ x ∈ l, a ≤ x ∧ x ≤ b) : a * l.length ≤ smI l ∧ smI l ≤ b * l.length := by
 induction l with
 | nil => simp [smI]
 | cons x r ih =>
  obtain ⟨h1, h2⟩ := ih (fun y hy => h y (List.mem_cons_of_mem _ hy))
  obtain ⟨h3, h4⟩ := h x List.mem_cons_self
  simp only [smI, List.length_cons, Int.natCast_add, Int.mul_add]
  constructor <;> omega
theorem jLs {α : Type} [Inhabited α] {l : List α} {i : Nat} (h : i < l.length) : l[i]! = l[i] := by simp [h]
theorem jSv {α : Type} [Inhabited α] {l : List α} {i : Nat} (h : i < l.length) : idx l (i : Int) = some l[i]! := by rw [jK7 h, jLs h]
theorem qYg {α : Type} {f : (List α × Int) → Option ((List α × Int) ⊕ List α)} {N m : Nat} (l : List α) (g : Nat → α) (hm : m ≤ l.length) (hf : ∀ (i : Nat) (hi : i < m) (x : List α), x.length = l.length → (∀ j, i ≤ j → x[j]? = l[j]?) → f (x, (i : Int)) = some (.inl (x.set i (g i), ((i + 1 : Nat) : Int))))
  (he : ∀ x, x.length = l.length → f (x, (m : Int)) = some (.inr x)) (hN : m < N) : jZq f N (l, 0) = some ((List.range m).map g ++ l.drop m) := by
 have hg : ∀ i, i ≤ m → ((List.range i).map g ++ l.drop i).length = l.length := fun i hi => by simp; omega
 have := jG9 (f := f) m (fun i => (List.range i).map g ++ l.drop i) ((List.range m).map g ++ l.drop m) (fun i hi => by
  rw [hf i hi _ (hg i (by omega)) (fun j hj => by
   rw [List.getElem?_append_right (by simp; omega)]; simp; congr 1; omega)]
  congr 3
  rw [List.range_succ, List.map_append, List.append_assoc, List.set_append_right _ _ (by simp)]
  congr 1
  simp only [List.length_map, List.length_range, Nat.sub_self]
  rw [List.drop_eq_getElem_cons (by omega)]
  rfl) (by rw [he _ (hg m (Nat.le_refl _))]) N hN
 simpa using this
theorem jMk : ∀ {k i : Nat}, jVm (fun _ => 0) k i = 0 := by
 intro k
 induction k with
 | zero => intro i; rfl
 | succ n ih => intro i; rw [jDv (e := fun _ => 0) rfl]; exact ih
theorem jGn {α β : Type} [DecidableEq α] (z : β) (x k : α) (y : β) : ∀ m : List (α × β), jXh z (jG8 m x y) k = if k = x then y else jXh z m k
 | [] => by
  by_cases h : k = x
  ·subst h; simp [jXh, jG8]
  ·simp [jXh, jG8, h]
 | p :: r => by
  by_cases hp : x = p.1
  ·subst hp
   by_cases h : k = p.1
   ·subst h; simp [jXh, jG8]
   ·simp [jXh, jG8, h]
  ·by_cases h : k = p.1
   ·subst h; simp [jXh, jG8, hp, Ne.symm hp]
   ·simp [jXh, jG8, hp, h, jGn z x k y r]
theorem jG2 (a b : Str) : jVh .eql a b = decide (a = b) := by
 unfold jVh
 rw [Bool.eq_iff_iff]
 simp
theorem jDx (a b : Str) : jVh .neq a b = !decide (a = b) := by
 rw [← jG2]; rfl
def same (nm : Nat → Str) (x : Str) (j : Nat) : Int := if nm j = x then 5 else 0
theorem jT9 {e : Nat → Int} : ∀ {k i : Nat}, jVm e k i ≠ 0 → ∃ j, i ≤ j ∧ j < i + k ∧ jVm e k i = e j ∧ e j ≠ 0 ∧ ∀ m, i ≤ m → m < j → e m = 0 := by
 intro k
 induction k with
 | zero => intro i h; exact absurd rfl h
 | succ k ih =>
  intro i h
  by_cases h0 : e i = 0
  ·rw [jDv h0] at h ⊢
   obtain ⟨j, h1, h2, h3, h4, h5⟩ := ih h
   refine ⟨j, by omega, by omega, h3, h4, fun m hm hj => ?_⟩
   by_cases hmi : m = i
   ·subst hmi; exact h0
   ·exact h5 m (by omega) hj
  ·rw [jFe h0]; exact ⟨i, by omega, by omega, rfl, h0, fun m hm hj => by omega⟩
def qXj (x0 : Str) (s1 : Int) : Option (Int ⊕ (Unit ⊕ Bool)) :=
 bif (jJw .lss s1 (List.length x0 : Int)) then ((idx x0 s1).bind fun v2 => bif ((!(((jJw .geq ((UInt8.toNat v2 : Nat) : Int) 97) && (jJw .leq ((UInt8.toNat v2 : Nat) : Int) 122)) || ((jJw .geq ((UInt8.toNat v2 : Nat) : Int) 65) && (jJw .leq ((UInt8.toNat v2 : Nat) : Int) 90)))) && ((jJw .eql s1 0) || ((jJw .neq ((UInt8.toNat v2 : Nat) : Int) 45) && ((jJw .lss ((UInt8.toNat v2 : Nat) : Int) 48) || (jJw .gtr ((UInt8.toNat v2 : Nat) : Int) 57))))) then (some (.inr (Sum.inr false))) else (some (.inl (IntKind.i64.wrap (s1 + 1))))) else (some (.inr (Sum.inl ())))
def qK6 (N : Nat) (x0 : Str) : Option (Bool) :=
 bif ((jJw .lss (List.length x0 : Int) 1) || (jJw .gtr (List.length x0 : Int) 12)) then (some false) else ((jZq (qXj x0) N 0).bind fun o5 => Sum.elim (fun l7 => some true) (fun r8 => some r8) o5)
theorem qJk {N : Nat} {s : Str} (hN : 13 ≤ N) : qK6 N s = some (jYb s) := by
  unfold qK6
  by_cases hlen : s.length < 1 ∨ 12 < s.length
  · have hc : (jJw .lss (s.length : Int) 1 || jJw .gtr (s.length : Int) 12) = true := by
      simp; omega
    rw [hc, cnT]
    congr 1
    unfold jYb
    rcases hlen with h | h
    · have : s = [] := List.eq_nil_of_length_eq_zero (by omega)
      subst this; rfl
    · cases s with
      | nil => rfl
      | cons c r => simp at h; simp; intro h'; omega
  · have hc : (jJw .lss (s.length : Int) 1 || jJw .gtr (s.length : Int) 12) = false := by
      rw [Bool.or_eq_false_iff]; simp; omega
    rw [hc, cnF]
    cases s with
    | nil => simp at hlen
    | cons c r =>
      have hr : r.length < 12 := by simp at hlen; omega
      have hbad : ∀ i (hi : i < (c :: r).length), ((!(((jJw .geq ((UInt8.toNat (c :: r)[i] : Nat) : Int) 97) && (jJw .leq ((UInt8.toNat (c :: r)[i] : Nat) : Int) 122)) || ((jJw .geq ((UInt8.toNat (c :: r)[i] : Nat) : Int) 65) && (jJw .leq ((UInt8.toNat (c :: r)[i] : Nat) : Int) 90)))) && ((jJw .eql (i : Int) 0) || ((jJw .neq ((UInt8.toNat (c :: r)[i] : Nat) : Int) 45) && ((jJw .lss ((UInt8.toNat (c :: r)[i] : Nat) : Int) 48) || (jJw .gtr ((UInt8.toNat (c :: r)[i] : Nat) : Int) 57))))) =
          !(if i = 0 then jHp (c :: r)[i] else jG7 (c :: r)[i]) := by
        intro i hi
        split
        · rename_i h0; subst h0
          simp only [jVv, Int.natCast_zero, decide_true, Bool.true_or, Bool.and_true]
          rfl
        · rename_i h0
          rw [jVv, show decide ((i : Int) = 0) = false by rw [decide_eq_false_iff_not]; omega, Bool.false_or]
          unfold jG7 jHp chr
          simp only [jVx, jQx, jYf, jBz, jDj]
          generalize ((UInt8.toNat (c :: r)[i] : Nat) : Int) = x
          rw [Bool.eq_iff_iff]
          simp only [Bool.and_eq_true, Bool.or_eq_true, Bool.not_eq_true', Bool.or_eq_false_iff, Bool.and_eq_false_iff, decide_eq_true_eq, decide_eq_false_iff_not]
          omega
      rw [jF3 (c :: r).length (if jYb (c :: r) then .inl () else .inr false) (fun i => ∀ j (h : j < (c :: r).length), j < i → (if j = 0 then jHp (c :: r)[j] else jG7 (c :: r)[j]) = true) ?_ ?_ (fun j _ h => absurd h (Nat.not_lt_zero _)) N (by simp; omega)]
      · cases jYb (c :: r) <;> rfl
      · intro i hi hp
        unfold qXj
        rw [jQx, show decide ((i : Int) < ((c :: r).length : Int)) = true by rw [decide_eq_true_eq]; omega, cnT, jK7 hi, bS, hbad i hi, jNk (show i < 9223372036854775807 by simp at hi; omega)]
        cases hg : (if i = 0 then jHp (c :: r)[i] else jG7 (c :: r)[i]) with
        | true =>
          refine .inl ⟨rfl, fun j hj hji => ?_⟩
          rcases Nat.lt_succ_iff_lt_or_eq.1 hji with h | rfl
          · exact hp j hj h
          · exact hg
        | false =>
          refine .inr ?_
          have : jYb (c :: r) = false := by
            rw [Bool.eq_false_iff]
            intro h
            simp only [jYb, Bool.and_eq_true, decide_eq_true_eq] at h
            obtain ⟨⟨_, h1⟩, h2⟩ := h
            rw [List.all_eq_true] at h2
            cases i with
            | zero => simp [h1] at hg
            | succ i =>
              simp at hg
              have := h2 _ (List.getElem_mem (by simpa using hi : i < r.length))
              rw [this] at hg; cases hg
          rw [this]; rfl
      · intro hp
        unfold qXj
        rw [jQx, show decide ((((c :: r).length : Nat) : Int) < ((c :: r).length : Int)) = false by simp, cnF]
        have : jYb (c :: r) = true := by
          simp only [jYb, Bool.and_eq_true, decide_eq_true_eq]
          refine ⟨⟨hr, (by have h := hp 0 (by simp) (by simp); rw [if_pos rfl] at h; exact h)⟩, ?_⟩
          rw [List.all_eq_true]
          intro x hx
          obtain ⟨j, hj, rfl⟩ := List.getElem_of_mem hx
          have := hp (j + 1) (by simp; omega) (by simp; omega)
          simpa using this
        rw [this]; rfl
theorem jLl {N : Nat} {s : Str} (hN : 13 ≤ N) : jW4 N s = some (jYb s) := qJk hN
end Go.KB
