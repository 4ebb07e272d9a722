/- Plain laws of chapter 7: loops, names, sets of names. Plain laws of chapter 7: searches, names, places of spaces and permits. Plain laws of chapter 7: CheckPlan. Plain laws of chapter 7: which plans are looked at. No condition. -/
import Derived.Test.YtekbfkfjhgfieaaGreatPZa
import Derived.Test.YtekbfkfjhgfieaaGreatGPure
namespace Go.KB
set_option linter.unusedVariables false
theorem w64i {n : Int} (h0 : -9223372036854775808 ≤ n) (h1 : n ≤ 9223372036854775807) : IntKind.i64.wrap n = n := jMt h0 h1
theorem dT {p : Prop} [Decidable p] (h : p) : decide p = true := decide_eq_true h
theorem dF {p : Prop} [Decidable p] (h : ¬p) : decide p = false := decide_eq_false h
def jX3 (e : Nat → Int) : Nat → Nat → Int
 | 0, _ => 0
 | k + 1, i => if e i = 0 then jX3 e k (i + 1) else e i
theorem jFg {e : Nat → Int} : ∀ {k i : Nat}, jX3 e k i = 0 → ∀ j, i ≤ j → j < i + k → e j = 0 := by
 intro k
 induction k with
 | zero => intro i _ j h1 h2; omega
 | succ k ih =>
  intro i h j h1 h2
  simp only [jX3] at h
  split at h
  ·rename_i h0
   rcases Nat.eq_or_lt_of_le h1 with rfl | h1
   ·exact h0
   ·exact ih h j h1 (by omega)
  ·rename_i h0; exact absurd h h0
def jHy {O : Type} (fin : O) (err : Int → O) (z : Int) : O := if z = 0 then fin else err z
theorem jRq {e : Nat → Int} {k i : Nat} (h : e i = 0) : jX3 e (k + 1) i = jX3 e k (i + 1) := by simp [jX3, h]
theorem jPb {e : Nat → Int} {k i : Nat} (h : e i ≠ 0) : jX3 e (k + 1) i = e i := by simp [jX3, h]
theorem jHu {O : Type} {n N : Nat} {f : Int → Option (Int ⊕ O)} {e : Nat → Int} {fin : O} {err : Int → O} (hf : ∀ i : Nat, i < n → (∀ j, j < i → e j = 0) → f (i : Int) = if e i = 0 then some (.inl ((i + 1 : Nat) : Int)) else some (.inr (err (e i)))) (he : (∀ j, j < n → e j = 0) → f (n : Int) = some (.inr fin)) (hN : n < N) :
  jXm f N 0 = some (jHy fin err (jX3 e n 0)) := by
 have key : ∀ k i, i + k = n → (∀ j, j < i → e j = 0) → ∀ M, k < M → jXm f M (i : Int) = some (jHy fin err (jX3 e k i)) := by
  intro k
  induction k with
  | zero =>
   intro i hi hz M hM
   obtain ⟨M, rfl⟩ : ∃ m, M = m + 1 := ⟨M - 1, by omega⟩
   have : i = n := by omega
   subst this
   simp only [jXm, he hz, jX3]; rfl
  | succ k ih =>
   intro i hi hz M hM
   obtain ⟨M, rfl⟩ : ∃ m, M = m + 1 := ⟨M - 1, by omega⟩
   simp only [jXm, hf i (by omega) hz]
   by_cases h0 : e i = 0
   ·rw [if_pos h0, jRq h0]
    exact ih (i + 1) (by omega) (fun j hj => by
     rcases Nat.lt_succ_iff_lt_or_eq.1 hj with h | rfl
     ·exact hz j h
     ·exact h0) M (by omega)
   ·rw [if_neg h0, jPb h0]
    unfold jHy
    rw [if_neg h0]
 exact key n 0 (by omega) (fun j hj => absurd hj (Nat.not_lt_zero _)) N (by omega)
theorem jCj {S O : Type} {n N : Nat} {f : S → Option (S ⊕ O)} {e : Nat → Int} {fin : O} {err : Int → O} (g : Nat → S) (hf : ∀ i : Nat, i < n → (∀ j, j < i → e j = 0) → f (g i) = if e i = 0 then some (.inl (g (i + 1))) else some (.inr (err (e i)))) (he : (∀ j, j < n → e j = 0) → f (g n) = some (.inr fin)) (hN : n < N) :
  jXm f N (g 0) = some (jHy fin err (jX3 e n 0)) := by
 have key : ∀ k i, i + k = n → (∀ j, j < i → e j = 0) → ∀ M, k < M → jXm f M (g i) = some (jHy fin err (jX3 e k i)) := by
  intro k
  induction k with
  | zero =>
   intro i hi hz M hM
   obtain ⟨M, rfl⟩ : ∃ m, M = m + 1 := ⟨M - 1, by omega⟩
   have : i = n := by omega
   subst this
   simp only [jXm, he hz, jX3]; rfl
  | succ k ih =>
   intro i hi hz M hM
   obtain ⟨M, rfl⟩ : ∃ m, M = m + 1 := ⟨M - 1, by omega⟩
   simp only [jXm, hf i (by omega) hz]
   by_cases h0 : e i = 0
   ·rw [if_pos h0, jRq h0]
    exact ih (i + 1) (by omega) (fun j hj => by
     rcases Nat.lt_succ_iff_lt_or_eq.1 hj with h | rfl
     ·exact hz j h
     ·exact h0) M (by omega)
   ·rw [if_neg h0, jPb h0]
    unfold jHy
    rw [if_neg h0]
 exact key n 0 (by omega) (fun j hj => absurd hj (Nat.not_lt_zero _)) N (by omega)
theorem qVb {α : Type} [Inhabited α] {l : List α} {i : Nat} (h : i < l.length) : l[i]! = l[i] := by simp [h]
theorem jAf {α : Type} [Inhabited α] {l : List α} {i : Nat} (h : i < l.length) : idx l (i : Int) = some l[i]! := by rw [jVw h, qVb h]
theorem jS8 {α : Type} {b : Bool} {x y : α} : (bif b then some x else some y) = some (bif b then x else y) := by cases b <;> rfl
theorem jFt {α β : Type} [DecidableEq α] (z : β) (x k : α) (y : β) : ∀ m : List (α × β), jX4 z (jG5 m x y) k = if k = x then y else jX4 z m k
 | [] => by
  by_cases h : k = x
  ·subst h; simp [jX4, jG5]
  ·simp [jX4, jG5, h]
 | p :: r => by
  by_cases hp : x = p.1
  ·subst hp
   by_cases h : k = p.1
   ·subst h; simp [jX4, jG5]
   ·simp [jX4, jG5, h]
  ·by_cases h : k = p.1
   ·subst h; simp [jX4, jG5, hp, Ne.symm hp]
   ·simp [jX4, jG5, hp, h, jFt z x k y r]
theorem jUd (a b : Str) : jKe .eql a b = decide (a = b) := by
 unfold jKe
 rw [Bool.eq_iff_iff]
 simp
theorem qYj (a b : Str) : jKe .neq a b = !decide (a = b) := by
 rw [← jUd]; rfl
def dup (nm : Nat → Str) : Nat → Str → Bool
 | 0, _ => false
 | i + 1, x => decide (x = nm i) || dup nm i x
def seen (nm : Nat → Str) : Nat → List (Str × Bool)
 | 0 => []
 | i + 1 => jG5 (seen nm i) (nm i) true
theorem jN4 (nm : Nat → Str) (x : Str) : ∀ i, jX4 false (seen nm i) x = dup nm i x
 | 0 => rfl
 | i + 1 => by
  simp only [seen, dup, jFt, jN4 nm x i]
  by_cases h : x = nm i <;> simp [h]
theorem jAv (nm : Nat → Str) (x : Str) : ∀ i, dup nm i x = true ↔ ∃ j, j < i ∧ nm j = x
 | 0 => by simp [dup]
 | i + 1 => by
  simp only [dup, Bool.or_eq_true, decide_eq_true_eq, jAv nm x i]
  constructor
  ·rintro (h | ⟨j, h1, h2⟩)
   ·exact ⟨i, by omega, h.symm⟩
   ·exact ⟨j, by omega, h2⟩
  ·rintro ⟨j, h1, h2⟩
   by_cases hj : j = i
   ·subst hj; exact .inl h2.symm
   ·exact .inr ⟨j, by omega, h2⟩
def same (nm : Nat → Str) (x : Str) (j : Nat) : Int := if nm j = x then 5 else 0
def qY8 (x0 : Str) (s1 : Int) : Option (Int ⊕ (Unit ⊕ Bool)) :=
 bif (jJy .lss s1 (List.length x0 : Int)) then ((idx x0 s1).bind fun v2 => bif ((!(((jJy .geq ((UInt8.toNat v2 : Nat) : Int) 97) && (jJy .leq ((UInt8.toNat v2 : Nat) : Int) 122)) || ((jJy .geq ((UInt8.toNat v2 : Nat) : Int) 65) && (jJy .leq ((UInt8.toNat v2 : Nat) : Int) 90)))) && ((jJy .eql s1 0) || ((jJy .neq ((UInt8.toNat v2 : Nat) : Int) 45) && ((jJy .lss ((UInt8.toNat v2 : Nat) : Int) 48) || (jJy .gtr ((UInt8.toNat v2 : Nat) : Int) 57))))) then (some (.inr (Sum.inr false))) else (some (.inl (IntKind.i64.wrap (s1 + 1))))) else (some (.inr (Sum.inl ())))
def nameF (N : Nat) (x0 : Str) : Option (Bool) :=
 bif ((jJy .lss (List.length x0 : Int) 1) || (jJy .gtr (List.length x0 : Int) 12)) then (some false) else ((jXm (qY8 x0) N 0).bind fun o5 => Sum.elim (fun l7 => some true) (fun r8 => some r8) o5)
theorem qWs {N : Nat} {s : Str} (hN : 13 ≤ N) : nameF N s = some (jWv s) := by
  unfold nameF
  by_cases hlen : s.length < 1 ∨ 12 < s.length
  · have hc : (jJy .lss (s.length : Int) 1 || jJy .gtr (s.length : Int) 12) = true := by
      simp; omega
    rw [hc, cond_true]
    congr 1
    unfold jWv
    rcases hlen with h | h
    · have : s = [] := List.eq_nil_of_length_eq_zero (by omega)
      subst this; rfl
    · cases s with
      | nil => rfl
      | cons c r => simp at h; simp; intro h'; omega
  · have hc : (jJy .lss (s.length : Int) 1 || jJy .gtr (s.length : Int) 12) = false := by
      rw [Bool.or_eq_false_iff]; simp; omega
    rw [hc, cond_false]
    cases s with
    | nil => simp at hlen
    | cons c r =>
      have hr : r.length < 12 := by simp at hlen; omega
      have hbad : ∀ i (hi : i < (c :: r).length), ((!(((jJy .geq ((UInt8.toNat (c :: r)[i] : Nat) : Int) 97) && (jJy .leq ((UInt8.toNat (c :: r)[i] : Nat) : Int) 122)) || ((jJy .geq ((UInt8.toNat (c :: r)[i] : Nat) : Int) 65) && (jJy .leq ((UInt8.toNat (c :: r)[i] : Nat) : Int) 90)))) && ((jJy .eql (i : Int) 0) || ((jJy .neq ((UInt8.toNat (c :: r)[i] : Nat) : Int) 45) && ((jJy .lss ((UInt8.toNat (c :: r)[i] : Nat) : Int) 48) || (jJy .gtr ((UInt8.toNat (c :: r)[i] : Nat) : Int) 57))))) =
          !(if i = 0 then jHt (c :: r)[i] else jUc (c :: r)[i]) := by
        intro i hi
        split
        · rename_i h0; subst h0
          simp only [jU2, Int.natCast_zero, decide_true, Bool.true_or, Bool.and_true]
          rfl
        · rename_i h0
          rw [jU2, show decide ((i : Int) = 0) = false by rw [decide_eq_false_iff_not]; omega, Bool.false_or]
          unfold jUc jHt chr
          simp only [jDd, jQq, jGz, jB4, jBn]
          generalize ((UInt8.toNat (c :: r)[i] : Nat) : Int) = x
          rw [Bool.eq_iff_iff]
          simp only [Bool.and_eq_true, Bool.or_eq_true, Bool.not_eq_true', Bool.or_eq_false_iff, Bool.and_eq_false_iff, decide_eq_true_eq, decide_eq_false_iff_not]
          omega
      rw [jCr (c :: r).length (if jWv (c :: r) then .inl () else .inr false) (fun i => ∀ j (h : j < (c :: r).length), j < i → (if j = 0 then jHt (c :: r)[j] else jUc (c :: r)[j]) = true) ?_ ?_ (fun j _ h => absurd h (Nat.not_lt_zero _)) N (by simp; omega)]
      · cases jWv (c :: r) <;> rfl
      · intro i hi hp
        unfold qY8
        rw [jQq, show decide ((i : Int) < ((c :: r).length : Int)) = true by rw [decide_eq_true_eq]; omega, cond_true, jVw hi, bS, hbad i hi, jDj (show i < 9223372036854775807 by simp at hi; omega)]
        cases hg : (if i = 0 then jHt (c :: r)[i] else jUc (c :: r)[i]) with
        | true =>
          refine .inl ⟨rfl, fun j hj hji => ?_⟩
          rcases Nat.lt_succ_iff_lt_or_eq.1 hji with h | rfl
          · exact hp j hj h
          · exact hg
        | false =>
          refine .inr ?_
          have : jWv (c :: r) = false := by
            rw [Bool.eq_false_iff]
            intro h
            simp only [jWv, Bool.and_eq_true, decide_eq_true_eq] at h
            obtain ⟨⟨_, h1⟩, h2⟩ := h
            rw [List.all_eq_true] at h2
            cases i with
            | zero => simp [h1] at hg
            | succ i =>
              simp at hg
              have := h2 _ (List.getElem_mem (by simpa using hi : i < r.length))
              rw [this] at hg; cases hg
          rw [this]; rfl
      · intro hp
        unfold qY8
        rw [jQq, show decide ((((c :: r).length : Nat) : Int) < ((c :: r).length : Int)) = false by simp, cond_false]
        have : jWv (c :: r) = true := by
          simp only [jWv, Bool.and_eq_true, decide_eq_true_eq]
          refine ⟨⟨hr, (by have h := hp 0 (by simp) (by simp); rw [if_pos rfl] at h; exact h)⟩, ?_⟩
          rw [List.all_eq_true]
          intro x hx
          obtain ⟨j, hj, rfl⟩ := List.getElem_of_mem hx
          have := hp (j + 1) (by simp; omega) (by simp; omega)
          simpa using this
        rw [this]; rfl
theorem jTb {N : Nat} {s : Str} (hN : 13 ≤ N) : jG8 N s = some (jWv s) := qWs hN
end Go.KB
namespace Go.KB
set_option linter.unusedVariables false
theorem qJq {O : Type} {n N : Nat} {f : Int → Option (Int ⊕ O)} (R : Nat → O) (hf : ∀ i : Nat, i < n → (f (i : Int) = some (.inl ((i + 1 : Nat) : Int)) ∧ R i = R (i + 1)) ∨ f (i : Int) = some (.inr (R i))) (he : f (n : Int) = some (.inr (R n))) (hN : n < N) : jXm f N 0 = some (R 0) := by
 have key : ∀ k i, i + k = n → ∀ M, k < M → jXm f M (i : Int) = some (R i) := by
  intro k
  induction k with
  | zero =>
   intro i hi M hM
   obtain ⟨M, rfl⟩ : ∃ m, M = m + 1 := ⟨M - 1, by omega⟩
   have : i = n := by omega
   subst this
   simp only [jXm, he]
  | succ k ih =>
   intro i hi M hM
   obtain ⟨M, rfl⟩ : ∃ m, M = m + 1 := ⟨M - 1, by omega⟩
   rcases hf i (by omega) with ⟨h1, h2⟩ | h1
   ·simp only [jXm, h1]; rw [h2]; exact ih (i + 1) (by omega) M (by omega)
   ·simp only [jXm, h1]
 exact key n 0 (by omega) N (by omega)
theorem drop_at {α : Type} {l : List α} {i : Nat} (h : i < l.length) : l.drop i = l[i] :: l.drop (i + 1) := List.drop_eq_getElem_cons h
theorem qW7 {α : Type} {l : List α} {N : Nat} {f : Int → Option (Int ⊕ (Unit ⊕ Bool))} {g : α → Bool} (hf : ∀ (i : Nat) (h : i < l.length), f (i : Int) = bif g l[i] then some (.inl ((i + 1 : Nat) : Int)) else some (.inr (.inr false))) (he : f (l.length : Int) = some (.inr (.inl ()))) (hN : l.length < N) :
  ((jXm f N 0).bind fun o => Sum.elim (fun _ => some true) (fun r => some r) o) = some (l.all g) := by
 rw [qJq (fun i => bif (l.drop i).all g then .inl () else .inr false) (fun i hi => ?_) (by simp [he]) hN]
 ·simp only [List.drop_zero, bS]; cases l.all g <;> rfl
 ·rw [hf i hi]
  simp only [drop_at hi, List.all_cons]
  cases g l[i]
  ·exact .inr rfl
  ·exact .inl ⟨rfl, by simp⟩
def ixI {α : Type} (g : α → Bool) (l : List α) : Int := if l.findIdx g < l.length then (l.findIdx g : Int) else -1
theorem jHj {α : Type} {l : List α} {N : Nat} {f : Int → Option (Int ⊕ (Unit ⊕ Int))} {g : α → Bool} (hf : ∀ (i : Nat) (h : i < l.length), f (i : Int) = bif g l[i] then some (.inr (.inr (i : Int))) else some (.inl ((i + 1 : Nat) : Int))) (he : f (l.length : Int) = some (.inr (.inl ()))) (hN : l.length < N) :
  ((jXm f N 0).bind fun o => Sum.elim (fun _ => some (-1 : Int)) (fun r => some r) o) = some (ixI g l) := by
 rw [qJq (fun i => if (l.drop i).findIdx g < (l.drop i).length then .inr (((i + (l.drop i).findIdx g : Nat)) : Int) else .inl ()) (fun i hi => ?_) (by simp [he]) hN]
 ·simp only [List.drop_zero, Nat.zero_add, bS, ixI]; split <;> rfl
 ·rw [hf i hi]
  simp only [drop_at hi, List.findIdx_cons]
  cases g l[i]
  ·refine .inl ⟨rfl, ?_⟩
   simp only [cond_false, List.length_cons, Nat.add_lt_add_iff_right]
   split
   ·congr 2; omega
   ·rfl
  ·refine .inr ?_
   simp only [cond_true, List.length_cons, Nat.zero_lt_succ, if_true, Nat.add_zero]
theorem jLv {α : Type} {g : α → Bool} {l : List α} (h : l.findIdx g < l.length) : ixI g l = (l.findIdx g : Int) := if_pos h
theorem jLa {α : Type} {g : α → Bool} {l : List α} (h : ¬ l.findIdx g < l.length) : ixI g l = -1 := if_neg h
theorem jMs {α : Type} {g : α → Bool} {l : List α} : decide (ixI g l < 0) = !l.any g := by
 have : l.any g = true ↔ l.findIdx g < l.length := by
  rw [List.any_eq_true]
  exact List.findIdx_lt_length.symm
 by_cases h : l.findIdx g < l.length
 ·rw [jLv h, this.2 h]; simp
 ·rw [jLa h, Bool.eq_false_iff.2 (fun x => h (this.1 x))]; rfl
theorem jFj {N : Nat} {s : Str} (hN : 13 ≤ N) : jW7 N s = some (jWv s) := by
  unfold jW7
  by_cases hlen : s.length < 1 ∨ 12 < s.length
  · have hc : (jJy .lss (s.length : Int) 1 || jJy .gtr (s.length : Int) 12) = true := by simp; omega
    rw [hc]
    simp only [Bool.not_true, cond_false, bS, Bool.true_or, cond_true]
    congr 1
    unfold jWv
    rcases hlen with h | h
    · have : s = [] := List.eq_nil_of_length_eq_zero (by omega)
      subst this; rfl
    · cases s with
      | nil => rfl
      | cons c r => simp at h; simp; intro h'; omega
  · have hc : (jJy .lss (s.length : Int) 1 || jJy .gtr (s.length : Int) 12) = false := by rw [Bool.or_eq_false_iff]; simp; omega
    rw [hc]
    cases s with
    | nil => simp at hlen
    | cons c r =>
      have hr : r.length < 12 := by simp at hlen; omega
      have hl : ∀ x : UInt8, jGj N ((UInt8.toNat x : Nat) : Int) = some (jHt x) := fun x => rfl
      have h0 : idx (c :: r) 0 = some c := by have := jVw (xs := c :: r) (i := 0) (by simp); simpa using this
      simp only [Bool.not_false, cond_true, h0, bS, hl, Bool.false_or]
      cases hc : jHt c with
      | false => simp [jWv, hc]
      | true =>
        simp only [Bool.not_true, cond_false]
        have h1 : ∀ (i : Nat) (hi : i < (c :: r).length), jY4 N (c :: r) (i : Int) = bif jUc (c :: r)[i] then some (.inl ((i + 1 : Nat) : Int)) else some (.inr (.inr false)) := by
          intro i hi
          unfold jY4
          rw [jQq, dT (by omega), cond_true, jVw hi, bS, hl, bS, jDj (show i < 9223372036854775807 by simp at hi; omega)]
          have : ((!jHt (c :: r)[i] && jJy .neq ((UInt8.toNat (c :: r)[i] : Nat) : Int) 45) && (jJy .lss ((UInt8.toNat (c :: r)[i] : Nat) : Int) 48 || jJy .gtr ((UInt8.toNat (c :: r)[i] : Nat) : Int) 57)) = !jUc (c :: r)[i] := by
            unfold jUc chr
            cases jHt (c :: r)[i]
            · simp only [Bool.not_false, Bool.true_and, Bool.false_or, jDd, jQq, jGz]
              generalize ((UInt8.toNat (c :: r)[i] : Nat) : Int) = x
              rw [Bool.eq_iff_iff]
              simp only [Bool.and_eq_true, Bool.or_eq_true, Bool.not_eq_true', Bool.or_eq_false_iff, Bool.and_eq_false_iff, decide_eq_true_eq, decide_eq_false_iff_not]
              omega
            · simp
          rw [this]
          cases jUc (c :: r)[i] <;> rfl
        have h2 : jY4 N (c :: r) ((c :: r).length : Int) = some (.inr (.inl ())) := by
          unfold jY4
          rw [jQq, dF (by omega), cond_false]
        rw [qW7 h1 h2 (by simp; omega)]
        simp [jWv, hc, jUc, hr]
instance : Inhabited jJ4 := ⟨⟨[], false, []⟩⟩
instance : Inhabited jJg := ⟨⟨[], 0, [], 0, 0, []⟩⟩
instance : Inhabited jJs := ⟨⟨0, 0, 0⟩⟩
def isS (s : Str) (y : jJ4) : Bool := decide (y.Name = s)
def isP (s : Str) (y : jJg) : Bool := decide (y.Name = s)
theorem qZ4 {N : Nat} {l : List jJ4} {f : jJ4 → Option Bool} {g : jJ4 → Bool} (hf : ∀ y, f y = some (g y)) (hl : l.length < 1000000) (hN : 1000000 ≤ N) : jZz N l f = some (ixI g l) := by
 unfold jZz
 refine jHj (fun i hi => ?_) ?_ (by omega)
 ·unfold jX7
  rw [jQq, dT (by omega), cond_true, jVw hi, bS, hf, bS, jDj (by omega)]
 ·unfold jX7
  rw [jQq, dF (by omega), cond_false]
theorem qXl {N : Nat} {l : List jJg} {f : jJg → Option Bool} {g : jJg → Bool} (hf : ∀ y, f y = some (g y)) (hl : l.length < 1000000) (hN : 1000000 ≤ N) : jX8 N l f = some (ixI g l) := by
 unfold jX8
 refine jHj (fun i hi => ?_) ?_ (by omega)
 ·unfold jXl
  rw [jQq, dT (by omega), cond_true, jVw hi, bS, hf, bS, jDj (by omega)]
 ·unfold jXl
  rw [jQq, dF (by omega), cond_false]
theorem jRj {N : Nat} {p : GPermitPlan} {s : Str} (hl : p.Spaces.length < 1000000) (hN : 1000000 ≤ N) : jUy N p s = some (ixI (isS s) p.Spaces) := by
 unfold jUy
 refine jHj (fun i hi => ?_) ?_ (by omega)
 ·unfold jUl
  rw [jQq, dT (by omega), cond_true, jVw hi, bS, jUd, jDj (by omega)]; rfl
 ·unfold jUl
  rw [jQq, dF (by omega), cond_false]
theorem jSg {N : Nat} {p : GPermitPlan} {s : Str} (hl : p.Permits.length < 1000000) (hN : 1000000 ≤ N) : jUr N p s = some (ixI (isP s) p.Permits) := by
 unfold jUr
 refine jHj (fun i hi => ?_) ?_ (by omega)
 ·unfold jUj
  rw [jQq, dT (by omega), cond_true, jVw hi, bS, jUd, jDj (by omega)]; rfl
 ·unfold jUj
  rw [jQq, dF (by omega), cond_false]
def jFn {α : Type} (z : α) (g : α → Bool) (l : List α) : α × Bool := match l.find? g with | some y => (y, true) | none => (z, false)
theorem jAw {α : Type} {g : α → Bool} : ∀ {l : List α}, (l.findIdx g < l.length ∧ ∃ h : l.findIdx g < l.length, l.find? g = some l[l.findIdx g]) ∨ (¬ l.findIdx g < l.length ∧ l.find? g = none) := by
 intro l
 by_cases h : l.findIdx g < l.length
 ·refine .inl ⟨h, h, ?_⟩
  exact (List.find?_eq_getElem?_findIdx ..).trans (List.getElem?_eq_getElem h)
 ·refine .inr ⟨h, ?_⟩
  rw [List.find?_eq_getElem?_findIdx, List.getElem?_eq_none (by omega)]
theorem jHl {N : Nat} {p : GPermitPlan} {s : Str} (hl : p.Spaces.length < 1000000) (hN : 1000000 ≤ N) : jXr N p s = some (jFn ⟨[], false, []⟩ (isS s) p.Spaces) := by
 unfold jXr
 rw [qZ4 (g := isS s) (fun y => by unfold jY2; rw [jUd]; rfl) hl hN, bS, jQq]
 unfold jFn
 rcases jAw (g := isS s) (l := p.Spaces) with ⟨_, h, h2⟩ | ⟨h, h2⟩
 ·rw [h2, jLv h, dF (by omega), cond_false, jVw h]; rfl
 ·rw [h2, jLa h]; rfl
theorem jD8 {N : Nat} {p : GPermitPlan} {s : Str} (hl : p.Permits.length < 1000000) (hN : 1000000 ≤ N) : jV3 N p s = some (jFn ⟨[], 0, [], 0, 0, []⟩ (isP s) p.Permits) := by
 unfold jV3
 rw [qXl (g := isP s) (fun y => by unfold jYm; rw [jUd]; rfl) hl hN, bS, jQq]
 unfold jFn
 rcases jAw (g := isP s) (l := p.Permits) with ⟨_, h, h2⟩ | ⟨h, h2⟩
 ·rw [h2, jLv h, dF (by omega), cond_false, jVw h]; rfl
 ·rw [h2, jLa h]; rfl
theorem jMc {α : Type} {z : α} {g : α → Bool} {l : List α} : (jFn z g l).2 = l.any g := by
 unfold jFn
 cases h : l.find? g with
 | none => simp only []; rw [eq_comm, Bool.eq_false_iff]; intro hx; rw [List.any_eq_true] at hx; obtain ⟨x, hx, hg⟩ := hx; exact absurd hg (by simpa using List.find?_eq_none.1 h x hx)
 | some y => simp only []; rw [eq_comm, List.any_eq_true]; exact ⟨y, List.mem_of_find?_eq_some h, List.find?_some h⟩
end Go.KB
namespace Go.KB
set_option linter.unusedVariables false
def jTe (a b : Int) : Int := if a = 0 then b else a
def jD0 (k : Int) : Bool := decide (0 ≤ k) && decide (k ≤ 5)
def nmS (p : GPermitPlan) (i : Nat) : Str := p.Spaces[i]!.Name
def nmP (p : GPermitPlan) (i : Nat) : Str := p.Permits[i]!.Name
def jNe (p : GPermitPlan) (s : Str) : Bool := p.Spaces.any (isS s)
def jUn (p : GPermitPlan) (s : Str) : Bool := p.Permits.any (isP s)
def atP (p : GPermitPlan) (s : Str) : jJg := (jFn ⟨[], 0, [], 0, 0, []⟩ (isP s) p.Permits).1
def atS (p : GPermitPlan) (s : Str) : jJ4 := (jFn ⟨[], false, []⟩ (isS s) p.Spaces).1
def eSp (p : GPermitPlan) (i : Nat) : Int := if jWv (nmS p i) = false then 4 else if dup (nmS p) i (nmS p i) = true then 5 else if 30 < p.Spaces[i]!.Next.length then 8 else 0
def eNx (p : GPermitPlan) (y : jJ4) (j : Nat) : Int := if jNe p y.Next[j]! = false then 6 else if y.Next[j]! = y.Name then 3 else 0
def qXy (p : GPermitPlan) (i : Nat) : Int := jX3 (eNx p p.Spaces[i]!) p.Spaces[i]!.Next.length 0
def eEx (p : GPermitPlan) (i : Nat) : Int := if jD0 p.Exclusions[i]!.A = false ∨ jD0 p.Exclusions[i]!.B = false ∨ p.Exclusions[i]!.Reach < 0 ∨ 2 < p.Exclusions[i]!.Reach then 2 else 0
def ePm (p : GPermitPlan) (i : Nat) : Int := if jWv (nmP p i) = false then 4 else if dup (nmP p) i (nmP p i) = true then 5 else
 if jD0 p.Permits[i]!.Kind = false ∨ p.Permits[i]!.From < 0 ∨ p.Permits[i]!.To ≤ p.Permits[i]!.From ∨ 1000000 < p.Permits[i]!.To then 2 else if jNe p p.Permits[i]!.Space = false then 6 else if 10 < p.Permits[i]!.Locks.length then 8 else 0
def eLk (p : GPermitPlan) (y : jJg) (j : Nat) : Int := if jUn p y.Locks[j]! = false then 6 else if (atP p y.Locks[j]!).Kind ≠ 5 ∨ y.Kind = 5 then 3 else 0
def qYd (p : GPermitPlan) (i : Nat) : Int := jX3 (eLk p p.Permits[i]!) p.Permits[i]!.Locks.length 0
def jGe (p : GPermitPlan) : Int := if 30 < p.Spaces.length ∨ 30 < p.Exclusions.length ∨ 20 < p.Permits.length then 8 else if p.GasMinutes < 1 ∨ 10000 < p.GasMinutes then 2 else
 jTe (jTe (jX3 (eSp p) p.Spaces.length 0) (jX3 (qXy p) p.Spaces.length 0)) (jTe (jX3 (eEx p) p.Exclusions.length 0) (jTe (jX3 (ePm p) p.Permits.length 0) (jX3 (qYd p) p.Permits.length 0)))
structure SmP (p : GPermitPlan) : Prop where
 s : p.Spaces.length < 1000
 x : p.Exclusions.length < 1000
 m : p.Permits.length < 1000
 n : ∀ y ∈ p.Spaces, y.Next.length < 1000
 l : ∀ y ∈ p.Permits, y.Locks.length < 1000
theorem jLd {α : Type} [Inhabited α] {l : List α} {i : Nat} (h : i < l.length) : l[i]! ∈ l := by rw [qVb h]; exact List.getElem_mem h
theorem jUp {A : Type} {fin : A} {E : Int} {K : A → Option Int} : ((some (jHy (Sum.inl fin) (fun e => Sum.inr e) E) : Option (A ⊕ Int)).bind fun o => Sum.elim (fun l => K l) (fun r => some r) o) = if E = 0 then K fin else some E := by
 unfold jHy
 by_cases h : E = 0
 ·rw [if_pos h, if_pos h]; rfl
 ·rw [if_neg h, if_neg h]; rfl
theorem qX9 {α : Type} [Inhabited α] {nm : α → Str} {x : Str} {l : List α} {i : Nat} (hi : i ≤ l.length) : dup (fun j => nm l[j]!) i x = (decide (0 ≤ ixI (fun y => decide (nm y = x)) l) && decide (ixI (fun y => decide (nm y = x)) l < (i : Int))) := by
 rw [Bool.eq_iff_iff, jAv, Bool.and_eq_true, decide_eq_true_eq, decide_eq_true_eq]
 constructor
 ·rintro ⟨j, hj, hx⟩
  have hjl : j < l.length := by omega
  rw [qVb hjl] at hx
  have hle : l.findIdx (fun y => decide (nm y = x)) ≤ j := by
   rcases Nat.lt_or_ge j (l.findIdx (fun y => decide (nm y = x))) with h | h
   ·exact absurd (List.not_of_lt_findIdx h) (by simp [hx])
   ·exact h
  rw [jLv (by omega)]
  omega
 ·rintro ⟨h1, h2⟩
  by_cases h : l.findIdx (fun y => decide (nm y = x)) < l.length
  ·rw [jLv h] at h2
   refine ⟨l.findIdx (fun y => decide (nm y = x)), by omega, ?_⟩
   show nm l[l.findIdx (fun y => decide (nm y = x))]! = x
   rw [qVb h]
   have := List.findIdx_getElem (xs := l) (p := fun y => decide (nm y = x)) (w := h)
   simpa using this
  ·rw [jLa h] at h1; omega
theorem qY7 {α : Type} [Inhabited α] {nm : α → Str} {x : Str} {l : List α} : dup (fun j => nm l[j]!) l.length x = l.any (fun y => decide (nm y = x)) := by
 rw [qX9 (Nat.le_refl _)]
 have := jMs (g := fun y => decide (nm y = x)) (l := l)
 by_cases h : l.findIdx (fun y => decide (nm y = x)) < l.length
 ·rw [jLv h] at this ⊢
  rw [dF (by omega)] at this
  rw [dT (by omega), dT (by omega)]
  cases hx : l.any (fun y => decide (nm y = x)) with
  | true => rfl
  | false => rw [hx] at this; cases this
 ·rw [jLa h] at this ⊢
  cases hx : l.any (fun y => decide (nm y = x)) with
  | false => rfl
  | true => rw [hx] at this; cases this
theorem qXd {N : Nat} {k : Int} : jGd N k = some (jD0 k) := rfl
theorem qV9 {N : Nat} {k : Int} : jG7 N k = some (jD0 k) := rfl
section
variable {N : Nat} {p : GPermitPlan} (hp : SmP p) (hN : 1000000 ≤ N)
include hp hN
theorem cs3 : jXm (jV6 N p) N (([] : List (Str × Bool)), 0) = some (jHy (.inl (seen (nmS p) p.Spaces.length)) (fun e => .inr e) (jX3 (eSp p) p.Spaces.length 0)) := by
 have hs := hp.s
 refine jCj (fun i => (seen (nmS p) i, (i : Int))) (fun i hi _ => ?_) (fun _ => ?_) (by omega)
 ·unfold jV6 eSp
  simp only []
  rw [jQq, dT (by omega), cond_true, jAf hi, bS, jFj (by omega), bS, jN4, jDj (by omega), jGz]
  show (bif !jWv (nmS p i) then _ else bif dup (nmS p) i (nmS p i) then _ else _) = _
  cases jWv (nmS p i) with
  | false => rfl
  | true =>
   cases dup (nmS p) i (nmS p i) with
   | true => rfl
   | false =>
    by_cases h : 30 < p.Spaces[i]!.Next.length
    ·rw [dT (show (30 : Int) < (p.Spaces[i]!.Next.length : Int) by omega), if_pos h]; rfl
    ·rw [dF (show ¬ (30 : Int) < (p.Spaces[i]!.Next.length : Int) by omega), if_neg h]; rfl
 ·unfold jV6
  simp only []
  rw [jQq, dF (by omega), cond_false]
theorem cs1 {y : jJ4} (hy : y ∈ p.Spaces) : jXm (jV7 N (seen (nmS p) p.Spaces.length) y) N 0 = some (jHy (.inl ()) (fun e => .inr e) (jX3 (eNx p y) y.Next.length 0)) := by
 have hl := hp.n y hy
 refine jHu (fun i hi _ => ?_) (fun _ => ?_) (by omega)
 ·unfold jV7 eNx
  rw [jQq, dT (by omega), cond_true, jAf hi, bS, jN4, show dup (nmS p) p.Spaces.length y.Next[i]! = jNe p y.Next[i]! from qY7, jDj (by omega), jUd]
  cases jNe p y.Next[i]! with
  | false => rfl
  | true =>
   by_cases h : y.Next[i]! = y.Name
   ·rw [dT h, if_pos h]; rfl
   ·rw [dF h, if_neg h]; rfl
 ·unfold jV7
  rw [jQq, dF (by omega), cond_false]
theorem cs2 : jXm (jV5 N p (seen (nmS p) p.Spaces.length)) N 0 = some (jHy (.inl ()) (fun e => .inr e) (jX3 (qXy p) p.Spaces.length 0)) := by
 have hs := hp.s
 refine jHu (fun i hi _ => ?_) (fun _ => ?_) (by omega)
 ·unfold jV5
  rw [jQq, dT (by omega), cond_true, jAf hi, bS, cs1 hp hN (jLd hi), jDj (by omega), bS]
  show Sum.elim _ _ (jHy _ _ (qXy p i)) = _
  unfold jHy
  by_cases h : qXy p i = 0
  ·rw [if_pos h, if_pos h]; rfl
  ·rw [if_neg h, if_neg h]; rfl
 ·unfold jV5
  rw [jQq, dF (by omega), cond_false]
theorem jRd : jY9 N p = some (jTe (jX3 (eSp p) p.Spaces.length 0) (jX3 (qXy p) p.Spaces.length 0)) := by
 unfold jY9
 rw [cs3 hp hN, jUp, cs2 hp hN, jUp]
 unfold jTe
 split
 ·split
  ·rename_i h; rw [h]
  ·rfl
 ·rfl
theorem rcs3 : jXm (jWx N p) N 0 = some (jHy (.inl ()) (fun e => .inr e) (jX3 (eSp p) p.Spaces.length 0)) := by
 have hs := hp.s
 refine jHu (fun i hi _ => ?_) (fun _ => ?_) (by omega)
 ·unfold jWx eSp
  rw [jQq, dT (by omega), cond_true, jAf hi, bS, jTb (by omega), bS]
  have hd : jUs N p (i : Int) (nmS p i) = some (dup (nmS p) i (nmS p i)) := by
   unfold jUs
   rw [jRj (by omega) hN, bS, jB4, jQq]
   exact congrArg some (qX9 (nm := jJ4.Name) (x := nmS p i) (l := p.Spaces) (Nat.le_of_lt hi)).symm
  rw [bS, show jUs N p (i : Int) p.Spaces[i]!.Name = _ from hd, bS, bS, jDj (by omega), jGz]
  show (bif !jWv (nmS p i) then _ else bif dup (nmS p) i (nmS p i) then _ else _) = _
  cases jWv (nmS p i) with
  | false => rfl
  | true =>
   cases dup (nmS p) i (nmS p i) with
   | true => rfl
   | false =>
    by_cases h : 30 < p.Spaces[i]!.Next.length
    ·rw [dT (show (30 : Int) < (p.Spaces[i]!.Next.length : Int) by omega), if_pos h]; rfl
    ·rw [dF (show ¬ (30 : Int) < (p.Spaces[i]!.Next.length : Int) by omega), if_neg h]; rfl
 ·unfold jWx
  rw [jQq, dF (by omega), cond_false]
theorem rcs1 {i : Nat} (hi : i < p.Spaces.length) : jXm (jWq N p (i : Int)) N 0 = some (jHy (.inl ()) (fun e => .inr e) (qXy p i)) := by
 have hl := hp.n _ (jLd hi)
 have hs := hp.s
 refine jHu (fun j hj _ => ?_) (fun _ => ?_) (by omega)
 ·unfold jWq eNx
  rw [jAf hi, bS, jQq, dT (by omega), cond_true, bS, jAf hj, bS, jRj (by omega) hN, bS, jQq, jMs, bS, jAf hj, bS, bS, jDj (by omega), jUd]
  show (bif !jNe p _ then _ else _) = _
  cases jNe p p.Spaces[i]!.Next[j]! with
  | false => rfl
  | true =>
   by_cases h : p.Spaces[i]!.Next[j]! = p.Spaces[i]!.Name
   ·rw [dT h, if_pos h]; rfl
   ·rw [dF h, if_neg h]; rfl
 ·unfold jWq
  rw [jAf hi, bS, jQq, dF (by omega), cond_false]
theorem rcs2 : jXm (jWz N p) N 0 = some (jHy (.inl ()) (fun e => .inr e) (jX3 (qXy p) p.Spaces.length 0)) := by
 have hs := hp.s
 refine jHu (fun i hi _ => ?_) (fun _ => ?_) (by omega)
 ·unfold jWz
  rw [jQq, dT (by omega), cond_true, rcs1 hp hN hi, jDj (by omega), bS]
  unfold jHy
  by_cases h : qXy p i = 0
  ·rw [if_pos h, if_pos h]; rfl
  ·rw [if_neg h, if_neg h]; rfl
 ·unfold jWz
  rw [jQq, dF (by omega), cond_false]
theorem jRx : jKw N p = some (jTe (jX3 (eSp p) p.Spaces.length 0) (jX3 (qXy p) p.Spaces.length 0)) := by
 unfold jKw
 rw [rcs3 hp hN, jUp, rcs2 hp hN, jUp]
 unfold jTe
 split
 ·split
  ·rename_i h; rw [h]
  ·rfl
 ·rfl
omit hp hN in
theorem ex_eq {a b : Bool} {r : Int} : ((((!a) || (!(bif !(!a) then b else false))) || (jJy .lss r 0)) || (jJy .gtr r 2)) = decide (a = false ∨ b = false ∨ r < 0 ∨ 2 < r) := by
 rw [Bool.eq_iff_iff, jQq, jGz]
 cases a <;> cases b <;> simp
omit hN in
theorem exL (hN2 : p.Exclusions.length < N) : jXm (jWp N p) N 0 = some (jHy (.inl ()) (fun e => .inr e) (jX3 (eEx p) p.Exclusions.length 0)) := by
 have hs := hp.x
 refine jHu (fun i hi _ => ?_) (fun _ => ?_) hN2
 ·unfold jWp eEx
  simp only [qXd]
  rw [jQq, dT (by omega), cond_true, jAf hi, bS, bS, jS8, bS, jDj (by omega), ex_eq]
  by_cases h : jD0 p.Exclusions[i]!.A = false ∨ jD0 p.Exclusions[i]!.B = false ∨ p.Exclusions[i]!.Reach < 0 ∨ 2 < p.Exclusions[i]!.Reach
  ·rw [dT h, if_pos h]; rfl
  ·rw [dF h, if_neg h]; rfl
 ·unfold jWp
  rw [jQq, dF (by omega), cond_false]
omit hN in
theorem rexL (hN2 : p.Exclusions.length < N) : jXm (jKa N p) N 0 = some (jHy (.inl ()) (fun e => .inr e) (jX3 (eEx p) p.Exclusions.length 0)) := exL hp hN2
omit hp hN in
theorem rg_eq {a : Bool} {x y : Int} : ((((!a) || (jJy .lss x 0)) || (jJy .geq x y)) || (jJy .gtr y 1000000)) = decide (a = false ∨ x < 0 ∨ y ≤ x ∨ 1000000 < y) := by
 rw [Bool.eq_iff_iff, jQq, jGz, jB4]
 cases a <;> simp [or_assoc]
theorem pm3 : jXm (jVl N p) N (([] : List (Str × Bool)), 0) = some (jHy (.inl ()) (fun e => .inr e) (jX3 (ePm p) p.Permits.length 0)) := by
 have hs := hp.s
 have hm := hp.m
 refine jCj (fun i => (seen (nmP p) i, (i : Int))) (fun i hi _ => ?_) (fun _ => ?_) (by omega)
 ·unfold jVl ePm
  simp only []
  rw [jQq, dT (by omega), cond_true, jAf hi, bS, jHl (by omega) hN, bS, jFj (by omega), bS, jN4, jDj (by omega), qXd, bS, rg_eq, jMc, jGz]
  show (bif !jWv (nmP p i) then _ else bif dup (nmP p) i (nmP p i) then _ else bif _ then _ else bif !jNe p p.Permits[i]!.Space then _ else _) = _
  cases jWv (nmP p i) with
  | false => rfl
  | true =>
   cases dup (nmP p) i (nmP p i) with
   | true => rfl
   | false =>
    by_cases h : jD0 p.Permits[i]!.Kind = false ∨ p.Permits[i]!.From < 0 ∨ p.Permits[i]!.To ≤ p.Permits[i]!.From ∨ 1000000 < p.Permits[i]!.To
    ·rw [dT h, if_pos h]; rfl
    ·rw [dF h, if_neg h]
     cases jNe p p.Permits[i]!.Space with
     | false => rfl
     | true =>
      by_cases h : 10 < p.Permits[i]!.Locks.length
      ·rw [dT (show (10 : Int) < (p.Permits[i]!.Locks.length : Int) by omega), if_pos h]; rfl
      ·rw [dF (show ¬ (10 : Int) < (p.Permits[i]!.Locks.length : Int) by omega), if_neg h]; rfl
 ·unfold jVl
  simp only []
  rw [jQq, dF (by omega), cond_false]
theorem rpm3 : jXm (jW8 N p) N 0 = some (jHy (.inl ()) (fun e => .inr e) (jX3 (ePm p) p.Permits.length 0)) := by
 have hs := hp.s
 have hm := hp.m
 refine jHu (fun i hi _ => ?_) (fun _ => ?_) (by omega)
 ·unfold jW8 ePm
  have hd : jJy .lss (ixI (isP p.Permits[i]!.Name) p.Permits) (i : Int) = dup (nmP p) i (nmP p i) := by
   have h1 := qX9 (nm := jJg.Name) (x := nmP p i) (l := p.Permits) (Nat.le_of_lt hi)
   have h2 : (0 : Int) ≤ ixI (isP p.Permits[i]!.Name) p.Permits := by
    have := jMs (g := isP p.Permits[i]!.Name) (l := p.Permits)
    have h3 : p.Permits.any (isP p.Permits[i]!.Name) = true := List.any_eq_true.2 ⟨_, jLd hi, by simp [isP]⟩
    rw [h3] at this
    simpa using this
   rw [jQq]
   show _ = dup (fun j => p.Permits[j]!.Name) i (nmP p i)
   rw [h1]
   show _ = (decide ((0 : Int) ≤ ixI (isP p.Permits[i]!.Name) p.Permits) && decide (ixI (isP p.Permits[i]!.Name) p.Permits < (i : Int)))
   rw [dT h2, Bool.true_and]
  rw [jQq, dT (by omega), cond_true, jAf hi, bS, jTb (by omega), bS, jSg (by omega) hN, bS, hd, qV9, bS, rg_eq, jRj (by omega) hN, bS, jQq, jMs, jGz, jDj (by omega)]
  show (bif !jWv (nmP p i) then _ else bif dup (nmP p) i (nmP p i) then _ else bif _ then _ else bif !jNe p p.Permits[i]!.Space then _ else _) = _
  cases jWv (nmP p i) with
  | false => rfl
  | true =>
   cases dup (nmP p) i (nmP p i) with
   | true => rfl
   | false =>
    by_cases h : jD0 p.Permits[i]!.Kind = false ∨ p.Permits[i]!.From < 0 ∨ p.Permits[i]!.To ≤ p.Permits[i]!.From ∨ 1000000 < p.Permits[i]!.To
    ·rw [dT h, if_pos h]; rfl
    ·rw [dF h, if_neg h]
     cases jNe p p.Permits[i]!.Space with
     | false => rfl
     | true =>
      by_cases h : 10 < p.Permits[i]!.Locks.length
      ·rw [dT (show (10 : Int) < (p.Permits[i]!.Locks.length : Int) by omega), if_pos h]; rfl
      ·rw [dF (show ¬ (10 : Int) < (p.Permits[i]!.Locks.length : Int) by omega), if_neg h]; rfl
 ·unfold jW8
  rw [jQq, dF (by omega), cond_false]
omit hp hN in
theorem lk_eq {a b : Int} : ((jJy .neq a 5) || (jJy .eql b 5)) = decide (a ≠ 5 ∨ b = 5) := by
 rw [Bool.eq_iff_iff, jDd, jU2]; simp
theorem lk1 {y : jJg} (hy : y ∈ p.Permits) : jXm (jVp N p y) N 0 = some (jHy (.inl ()) (fun e => .inr e) (jX3 (eLk p y) y.Locks.length 0)) := by
 have hm := hp.m
 have hl := hp.l y hy
 refine jHu (fun i hi _ => ?_) (fun _ => ?_) (by omega)
 ·unfold jVp eLk
  rw [jQq, dT (by omega), cond_true, jAf hi, bS, jD8 (by omega) hN, bS, jMc, lk_eq, jDj (by omega)]
  show (bif !jUn p y.Locks[i]! then _ else bif decide ((atP p y.Locks[i]!).Kind ≠ 5 ∨ y.Kind = 5) then _ else _) = _
  cases jUn p y.Locks[i]! with
  | false => rfl
  | true =>
   by_cases h : (atP p y.Locks[i]!).Kind ≠ 5 ∨ y.Kind = 5
   ·rw [dT h, if_pos h]; rfl
   ·rw [dF h, if_neg h]; rfl
 ·unfold jVp
  rw [jQq, dF (by omega), cond_false]
theorem lk2 : jXm (jVs N p) N 0 = some (jHy (.inl ()) (fun e => .inr e) (jX3 (qYd p) p.Permits.length 0)) := by
 have hm := hp.m
 refine jHu (fun i hi _ => ?_) (fun _ => ?_) (by omega)
 ·unfold jVs
  rw [jQq, dT (by omega), cond_true, jAf hi, bS, lk1 hp hN (jLd hi), jDj (by omega), bS]
  show Sum.elim _ _ (jHy _ _ (qYd p i)) = _
  unfold jHy
  by_cases h : qYd p i = 0
  ·rw [if_pos h, if_pos h]; rfl
  ·rw [if_neg h, if_neg h]; rfl
 ·unfold jVs
  rw [jQq, dF (by omega), cond_false]
theorem rlk1 {y : jJg} (hy : y ∈ p.Permits) : jXm (jYj N p y) N 0 = some (jHy (.inl ()) (fun e => .inr e) (jX3 (eLk p y) y.Locks.length 0)) := by
 have hm := hp.m
 have hl := hp.l y hy
 refine jHu (fun i hi _ => ?_) (fun _ => ?_) (by omega)
 ·unfold jYj eLk
  rw [jQq, dT (by omega), cond_true, jAf hi, bS, jSg (by omega) hN, bS, jQq, jMs, jDj (by omega)]
  show (bif !jUn p y.Locks[i]! then _ else _) = _
  cases hx : jUn p y.Locks[i]! with
  | false => rfl
  | true =>
   rw [Bool.not_true, cond_false]
   have hg : idx p.Permits (ixI (isP y.Locks[i]!) p.Permits) = some (atP p y.Locks[i]!) := by
    unfold atP jFn
    rcases jAw (g := isP y.Locks[i]!) (l := p.Permits) with ⟨_, h, h2⟩ | ⟨h, h2⟩
    ·rw [h2, jLv h, jVw h]
    ·have := jMs (g := isP y.Locks[i]!) (l := p.Permits)
     rw [show p.Permits.any (isP y.Locks[i]!) = true from hx, jLa h] at this
     cases this
   rw [hg, bS, lk_eq]
   by_cases h : (atP p y.Locks[i]!).Kind ≠ 5 ∨ y.Kind = 5
   ·rw [dT h, if_pos h]; rfl
   ·rw [dF h, if_neg h]; rfl
 ·unfold jYj
  rw [jQq, dF (by omega), cond_false]
theorem rlk2 : jXm (jW9 N p) N 0 = some (jHy (.inl ()) (fun e => .inr e) (jX3 (qYd p) p.Permits.length 0)) := by
 have hm := hp.m
 refine jHu (fun i hi _ => ?_) (fun _ => ?_) (by omega)
 ·unfold jW9
  rw [jQq, dT (by omega), cond_true, jAf hi, bS, rlk1 hp hN (jLd hi), jDj (by omega), bS]
  show Sum.elim _ _ (jHy _ _ (qYd p i)) = _
  unfold jHy
  by_cases h : qYd p i = 0
  ·rw [if_pos h, if_pos h]; rfl
  ·rw [if_neg h, if_neg h]; rfl
 ·unfold jW9
  rw [jQq, dF (by omega), cond_false]
theorem jP3 : jYs N p = some (jTe (jX3 (ePm p) p.Permits.length 0) (jX3 (qYd p) p.Permits.length 0)) := by
 unfold jYs
 rw [pm3 hp hN, jUp, lk2 hp hN, jUp]
 unfold jTe
 split
 ·split
  ·rename_i h; rw [h]
  ·rfl
 ·rfl
omit hp hN in
theorem qYu : (((jJy .gtr (List.length p.Spaces : Int) 30) || (jJy .gtr (List.length p.Exclusions : Int) 30)) || (jJy .gtr (List.length p.Permits : Int) 20)) = decide (30 < p.Spaces.length ∨ 30 < p.Exclusions.length ∨ 20 < p.Permits.length) := by
 rw [Bool.eq_iff_iff]; simp only [jGz, Bool.or_eq_true, decide_eq_true_eq]; omega
omit hp hN in
theorem qYb {g : Int} : ((jJy .lss g 1) || (jJy .gtr g 10000)) = decide (g < 1 ∨ 10000 < g) := by
 rw [Bool.eq_iff_iff]; simp
theorem jTu : jY1 N p = some (jGe p) := by
  have hx := hp.x
  unfold jY1 jGe
  rw [qYu, qYb]
  by_cases h : 30 < p.Spaces.length ∨ 30 < p.Exclusions.length ∨ 20 < p.Permits.length
  · rw [dT h, if_pos h]; rfl
  · rw [dF h, if_neg h, cond_false]
    by_cases h : p.GasMinutes < 1 ∨ 10000 < p.GasMinutes
    · rw [dT h, if_pos h]; rfl
    · rw [dF h, if_neg h, cond_false, jRd hp hN, bS, jDd]
      generalize jTe (jX3 (eSp p) p.Spaces.length 0) (jX3 (qXy p) p.Spaces.length 0) = E
      unfold jTe
      by_cases h : E = 0
      · rw [dT h, if_pos h, Bool.not_true, cond_false, exL hp (by omega), jUp, jP3 hp hN]
        unfold jTe
        split
        · rfl
        · rfl
      · rw [dF h, if_neg h]; rfl
theorem jS3 : jUx N p = some (jGe p) := by
  have hx := hp.x
  unfold jUx jGe
  rw [qYu, qYb]
  by_cases h : 30 < p.Spaces.length ∨ 30 < p.Exclusions.length ∨ 20 < p.Permits.length
  · rw [dT h, if_pos h]; rfl
  · rw [dF h, if_neg h, cond_false]
    by_cases h : p.GasMinutes < 1 ∨ 10000 < p.GasMinutes
    · rw [dT h, if_pos h]; rfl
    · rw [dF h, if_neg h, cond_false, jRx hp hN, bS, jDd]
      generalize jTe (jX3 (eSp p) p.Spaces.length 0) (jX3 (qXy p) p.Spaces.length 0) = E
      unfold jTe
      by_cases h : E = 0
      · rw [dT h, if_pos h, Bool.not_true, cond_false, rexL hp (by omega), jUp, rpm3 hp hN, jUp, rlk2 hp hN, jUp]
        split
        · split
          · split
            · rename_i h1 h2 h3; rw [h3]
            · rfl
          · rfl
        · rfl
      · rw [dF h, if_neg h]; rfl
end
end Go.KB
namespace Go.KB
set_option linter.unusedVariables false
theorem qWg {N : Nat} (p : GPermitPlan) (hN : 1000000 ≤ N) : jGh N p = some true ∨ (jGh N p = some false ∧ SmP p ∧ p.Spaces.length ≤ 40 ∧ p.Exclusions.length ≤ 40 ∧ p.Permits.length ≤ 30 ∧ (∀ y ∈ p.Spaces, y.Next.length ≤ 40 ∧ y.Name.length ≤ 40) ∧ ∀ y ∈ p.Permits, y.Locks.length ≤ 20 ∧ y.Name.length ≤ 40) := by
  unfold jGh
  have hb : (((jJy .gtr (List.length p.Spaces : Int) 40) || (jJy .gtr (List.length p.Exclusions : Int) 40)) || (jJy .gtr (List.length p.Permits : Int) 30)) = decide (40 < p.Spaces.length ∨ 40 < p.Exclusions.length ∨ 30 < p.Permits.length) := by
    rw [Bool.eq_iff_iff]; simp only [jGz, Bool.or_eq_true, decide_eq_true_eq]; omega
  rw [hb]
  by_cases h : 40 < p.Spaces.length ∨ 40 < p.Exclusions.length ∨ 30 < p.Permits.length
  · rw [dT h]; exact .inl rfl
  rw [dF h, cond_false]
  have hs : ∀ (i : Nat) (hi : i < p.Spaces.length), jYz N p (i : Int) = bif (decide (40 < p.Spaces[i].Next.length) || decide (40 < p.Spaces[i].Name.length)) then some (.inr (.inr true)) else some (.inl ((i + 1 : Nat) : Int)) := by
    intro i hi
    unfold jYz
    rw [jQq, dT (by omega), cond_true, jVw hi, bS, jDj (by omega)]
    simp only [jGz]
    by_cases h1 : 40 < p.Spaces[i].Next.length
    · rw [dT h1, dT (show (40 : Int) < (p.Spaces[i].Next.length : Int) by omega)]; rfl
    · rw [dF h1, dF (show ¬ (40 : Int) < (p.Spaces[i].Next.length : Int) by omega), Bool.not_false, cond_true, bS, Bool.false_or, Bool.false_or]
      by_cases h2 : 40 < p.Spaces[i].Name.length
      · rw [dT h2, dT (show (40 : Int) < (p.Spaces[i].Name.length : Int) by omega)]
      · rw [dF h2, dF (show ¬ (40 : Int) < (p.Spaces[i].Name.length : Int) by omega)]
  have hs2 : jYz N p (p.Spaces.length : Int) = some (.inr (.inl ())) := by
    unfold jYz
    rw [jQq, dF (by omega), cond_false]
  have hm : ∀ (i : Nat) (hi : i < p.Permits.length), jYx N p (i : Int) = bif (decide (20 < p.Permits[i].Locks.length) || decide (40 < p.Permits[i].Name.length)) then some (.inr (.inr true)) else some (.inl ((i + 1 : Nat) : Int)) := by
    intro i hi
    unfold jYx
    rw [jQq, dT (by omega), cond_true, jVw hi, bS, jDj (by omega)]
    simp only [jGz]
    by_cases h1 : 20 < p.Permits[i].Locks.length
    · rw [dT h1, dT (show (20 : Int) < (p.Permits[i].Locks.length : Int) by omega)]; rfl
    · rw [dF h1, dF (show ¬ (20 : Int) < (p.Permits[i].Locks.length : Int) by omega), Bool.not_false, cond_true, bS, Bool.false_or, Bool.false_or]
      by_cases h2 : 40 < p.Permits[i].Name.length
      · rw [dT h2, dT (show (40 : Int) < (p.Permits[i].Name.length : Int) by omega)]
      · rw [dF h2, dF (show ¬ (40 : Int) < (p.Permits[i].Name.length : Int) by omega)]
  have hm2 : jYx N p (p.Permits.length : Int) = some (.inr (.inl ())) := by
    unfold jYx
    rw [jQq, dF (by omega), cond_false]
  have e1 := qJq (N := N) (fun i => bif (p.Spaces.drop i).any (fun y => decide (40 < y.Next.length) || decide (40 < y.Name.length)) then .inr true else .inl ()) (f := jYz N p) (n := p.Spaces.length) (fun i hi => by
    rw [hs i hi]
    simp only [drop_at hi, List.any_cons]
    cases (decide (40 < p.Spaces[i].Next.length) || decide (40 < p.Spaces[i].Name.length))
    · exact .inl ⟨rfl, by simp⟩
    · exact .inr rfl) (by rw [hs2]; simp) (by omega)
  have e2 := qJq (N := N) (fun i => bif (p.Permits.drop i).any (fun y => decide (20 < y.Locks.length) || decide (40 < y.Name.length)) then .inr true else .inl ()) (f := jYx N p) (n := p.Permits.length) (fun i hi => by
    rw [hm i hi]
    simp only [drop_at hi, List.any_cons]
    cases (decide (20 < p.Permits[i].Locks.length) || decide (40 < p.Permits[i].Name.length))
    · exact .inl ⟨rfl, by simp⟩
    · exact .inr rfl) (by rw [hm2]; simp) (by omega)
  rw [e1, e2]
  simp only [List.drop_zero, bS]
  cases ha : p.Spaces.any (fun y => decide (40 < y.Next.length) || decide (40 < y.Name.length)) with
  | true => exact .inl rfl
  | false =>
    cases hc : p.Permits.any (fun y => decide (20 < y.Locks.length) || decide (40 < y.Name.length)) with
    | true => exact .inl rfl
    | false =>
      have ha' : ∀ y ∈ p.Spaces, y.Next.length ≤ 40 ∧ y.Name.length ≤ 40 := fun y hy => by
        have := List.any_eq_false.1 ha y hy
        simp only [Bool.or_eq_true, decide_eq_true_eq, not_or] at this
        omega
      have hc' : ∀ y ∈ p.Permits, y.Locks.length ≤ 20 ∧ y.Name.length ≤ 40 := fun y hy => by
        have := List.any_eq_false.1 hc y hy
        simp only [Bool.or_eq_true, decide_eq_true_eq, not_or] at this
        omega
      exact .inr ⟨rfl, ⟨by omega, by omega, by omega, fun y hy => by have := (ha' y hy).1; omega, fun y hy => by have := (hc' y hy).1; omega⟩, by omega, by omega, by omega, ha', hc'⟩
end Go.KB
