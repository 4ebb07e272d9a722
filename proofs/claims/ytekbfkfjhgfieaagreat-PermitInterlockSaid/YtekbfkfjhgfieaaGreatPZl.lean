/- Plain laws of chapter 7: loops, names, sets of names. Plain laws of chapter 7: searches, names, places of spaces and permits. Plain laws of chapter 7: CheckPlan. Plain laws of chapter 7: which plans are looked at. No condition. -/
import Derived.Test.YtekbfkfjhgfieaaGreatPZa
import Derived.Test.YtekbfkfjhgfieaaGreatGPure
namespace Go.KB
set_option linter.unusedVariables false
theorem w64i {n : Int} (h0 : -9223372036854775808 ≤ n) (h1 : n ≤ 9223372036854775807) : IntKind.i64.wrap n = n := jCj h0 h1
theorem dT {p : Prop} [Decidable p] (h : p) : decide p = true := decide_eq_true h
theorem dF {p : Prop} [Decidable p] (h : ¬p) : decide p = false := decide_eq_false h
def jQ8 (e : Nat → Int) : Nat → Nat → Int
 | 0, _ => 0
 | k + 1, i => if e i = 0 then jQ8 e k (i + 1) else e i
theorem jB1 {e : Nat → Int} : ∀ {k i : Nat}, jQ8 e k i = 0 → ∀ j, i ≤ j → j < i + k → e j = 0 := by
 intro k
 induction k with
 | zero => intro i _ j h1 h2; omega
 | succ k ih =>
  intro i h j h1 h2
  simp only [jQ8] at h
  split at h
  ·rename_i h0
   rcases Nat.eq_or_lt_of_le h1 with rfl | h1
   ·exact h0
   ·exact ih h j h1 (by omega)
  ·rename_i h0; exact absurd h h0
theorem jR9 {e e' : Nat → Int} : ∀ {k i : Nat}, (∀ j, i ≤ j → j < i + k → (∀ m, i ≤ m → m < j → e m = 0) → e j = e' j) → jQ8 e k i = jQ8 e' k i := by
 intro k
 induction k with
 | zero => intro i _; rfl
 | succ k ih =>
  intro i h
  have h0 := h i (Nat.le_refl _) (by omega) (fun m h1 h2 => by omega)
  simp only [jQ8]
  rw [← h0]
  by_cases hz : e i = 0
  ·rw [if_pos hz, if_pos hz]
   refine ih fun j h1 h2 h3 => h j (by omega) (by omega) fun m hm1 hm2 => ?_
   rcases Nat.eq_or_lt_of_le hm1 with rfl | hm1
   ·exact hz
   ·exact h3 m hm1 hm2
  ·rw [if_neg hz, if_neg hz]
def jHh {O : Type} (fin : O) (err : Int → O) (z : Int) : O := if z = 0 then fin else err z
theorem jMb {e : Nat → Int} {k i : Nat} (h : e i = 0) : jQ8 e (k + 1) i = jQ8 e k (i + 1) := by simp [jQ8, h]
theorem jRb {e : Nat → Int} {k i : Nat} (h : e i ≠ 0) : jQ8 e (k + 1) i = e i := by simp [jQ8, h]
theorem jHp {O : Type} {n N : Nat} {f : Int → Option (Int ⊕ O)} {e : Nat → Int} {fin : O} {err : Int → O} (hf : ∀ i : Nat, i < n → (∀ j, j < i → e j = 0) → f (i : Int) = if e i = 0 then some (.inl ((i + 1 : Nat) : Int)) else some (.inr (err (e i)))) (he : (∀ j, j < n → e j = 0) → f (n : Int) = some (.inr fin)) (hN : n < N) :
  jXz f N 0 = some (jHh fin err (jQ8 e n 0)) := by
 have key : ∀ k i, i + k = n → (∀ j, j < i → e j = 0) → ∀ M, k < M → jXz f M (i : Int) = some (jHh fin err (jQ8 e k i)) := by
  intro k
  induction k with
  | zero =>
   intro i hi hz M hM
   obtain ⟨M, rfl⟩ : ∃ m, M = m + 1 := ⟨M - 1, by omega⟩
   have : i = n := by omega
   subst this
   simp only [jXz, he hz, jQ8]; rfl
  | succ k ih =>
   intro i hi hz M hM
   obtain ⟨M, rfl⟩ : ∃ m, M = m + 1 := ⟨M - 1, by omega⟩
   simp only [jXz, hf i (by omega) hz]
   by_cases h0 : e i = 0
   ·rw [if_pos h0, jMb h0]
    exact ih (i + 1) (by omega) (fun j hj => by
     rcases Nat.lt_succ_iff_lt_or_eq.1 hj with h | rfl
     ·exact hz j h
     ·exact h0) M (by omega)
   ·rw [if_neg h0, jRb h0]
    unfold jHh
    rw [if_neg h0]
 exact key n 0 (by omega) (fun j hj => absurd hj (Nat.not_lt_zero _)) N (by omega)
theorem jR1 {S O : Type} {n N : Nat} {f : S → Option (S ⊕ O)} {e : Nat → Int} {fin : O} {err : Int → O} (g : Nat → S) (hf : ∀ i : Nat, i < n → (∀ j, j < i → e j = 0) → f (g i) = if e i = 0 then some (.inl (g (i + 1))) else some (.inr (err (e i)))) (he : (∀ j, j < n → e j = 0) → f (g n) = some (.inr fin)) (hN : n < N) :
  jXz f N (g 0) = some (jHh fin err (jQ8 e n 0)) := by
 have key : ∀ k i, i + k = n → (∀ j, j < i → e j = 0) → ∀ M, k < M → jXz f M (g i) = some (jHh fin err (jQ8 e k i)) := by
  intro k
  induction k with
  | zero =>
   intro i hi hz M hM
   obtain ⟨M, rfl⟩ : ∃ m, M = m + 1 := ⟨M - 1, by omega⟩
   have : i = n := by omega
   subst this
   simp only [jXz, he hz, jQ8]; rfl
  | succ k ih =>
   intro i hi hz M hM
   obtain ⟨M, rfl⟩ : ∃ m, M = m + 1 := ⟨M - 1, by omega⟩
   simp only [jXz, hf i (by omega) hz]
   by_cases h0 : e i = 0
   ·rw [if_pos h0, jMb h0]
    exact ih (i + 1) (by omega) (fun j hj => by
     rcases Nat.lt_succ_iff_lt_or_eq.1 hj with h | rfl
     ·exact hz j h
     ·exact h0) M (by omega)
   ·rw [if_neg h0, jRb h0]
    unfold jHh
    rw [if_neg h0]
 exact key n 0 (by omega) (fun j hj => absurd hj (Nat.not_lt_zero _)) N (by omega)
theorem jTf {α : Type} [Inhabited α] {l : List α} {i : Nat} (h : i < l.length) : l[i]! = l[i] := by simp [h]
theorem jAd {α : Type} [Inhabited α] {l : List α} {i : Nat} (h : i < l.length) : idx l (i : Int) = some l[i]! := by rw [jVx h, jTf h]
theorem jTg {α : Type} {b : Bool} {x y : α} : (bif b then some x else some y) = some (bif b then x else y) := by cases b <;> rfl
theorem jCb : ∀ {k i : Nat}, jQ8 (fun _ => 0) k i = 0 := by
 intro k
 induction k with
 | zero => intro i; rfl
 | succ n ih => intro i; rw [jMb (e := fun _ => 0) rfl]; exact ih
theorem jLk {α β : Type} [DecidableEq α] (z : β) (x k : α) (y : β) : ∀ m : List (α × β), jX9 z (jHb m x y) k = if k = x then y else jX9 z m k
 | [] => by
  by_cases h : k = x
  ·subst h; simp [jX9, jHb]
  ·simp [jX9, jHb, h]
 | p :: r => by
  by_cases hp : x = p.1
  ·subst hp
   by_cases h : k = p.1
   ·subst h; simp [jX9, jHb]
   ·simp [jX9, jHb, h]
  ·by_cases h : k = p.1
   ·subst h; simp [jX9, jHb, hp, Ne.symm hp]
   ·simp [jX9, jHb, hp, h, jLk z x k y r]
theorem jUa (a b : Str) : jGg .eql a b = decide (a = b) := by
 unfold jGg
 rw [Bool.eq_iff_iff]
 simp
theorem qYx (a b : Str) : jGg .neq a b = !decide (a = b) := by
 rw [← jUa]; rfl
def dup (nm : Nat → Str) : Nat → Str → Bool
 | 0, _ => false
 | i + 1, x => decide (x = nm i) || dup nm i x
def seen (nm : Nat → Str) : Nat → List (Str × Bool)
 | 0 => []
 | i + 1 => jHb (seen nm i) (nm i) true
theorem jPd (nm : Nat → Str) (x : Str) : ∀ i, jX9 false (seen nm i) x = dup nm i x
 | 0 => rfl
 | i + 1 => by
  simp only [seen, dup, jLk, jPd nm x i]
  by_cases h : x = nm i <;> simp [h]
theorem jA6 (nm : Nat → Str) (x : Str) : ∀ i, dup nm i x = true ↔ ∃ j, j < i ∧ nm j = x
 | 0 => by simp [dup]
 | i + 1 => by
  simp only [dup, Bool.or_eq_true, decide_eq_true_eq, jA6 nm x i]
  constructor
  ·rintro (h | ⟨j, h1, h2⟩)
   ·exact ⟨i, by omega, h.symm⟩
   ·exact ⟨j, by omega, h2⟩
  ·rintro ⟨j, h1, h2⟩
   by_cases hj : j = i
   ·subst hj; exact .inl h2.symm
   ·exact .inr ⟨j, by omega, h2⟩
def same (nm : Nat → Str) (x : Str) (j : Nat) : Int := if nm j = x then 5 else 0
def qUl (x0 : Str) (s1 : Int) : Option (Int ⊕ (Unit ⊕ Bool)) :=
 bif (jJy .lss s1 (List.length x0 : Int)) then ((idx x0 s1).bind fun v2 => bif ((!(((jJy .geq ((UInt8.toNat v2 : Nat) : Int) 97) && (jJy .leq ((UInt8.toNat v2 : Nat) : Int) 122)) || ((jJy .geq ((UInt8.toNat v2 : Nat) : Int) 65) && (jJy .leq ((UInt8.toNat v2 : Nat) : Int) 90)))) && ((jJy .eql s1 0) || ((jJy .neq ((UInt8.toNat v2 : Nat) : Int) 45) && ((jJy .lss ((UInt8.toNat v2 : Nat) : Int) 48) || (jJy .gtr ((UInt8.toNat v2 : Nat) : Int) 57))))) then (some (.inr (Sum.inr false))) else (some (.inl (IntKind.i64.wrap (s1 + 1))))) else (some (.inr (Sum.inl ())))
def nameF (N : Nat) (x0 : Str) : Option (Bool) :=
 bif ((jJy .lss (List.length x0 : Int) 1) || (jJy .gtr (List.length x0 : Int) 12)) then (some false) else ((jXz (qUl x0) N 0).bind fun o5 => Sum.elim (fun l7 => some true) (fun r8 => some r8) o5)
theorem qWp {N : Nat} {s : Str} (hN : 13 ≤ N) : nameF N s = some (jWr s) := by
  unfold nameF
  by_cases hlen : s.length < 1 ∨ 12 < s.length
  · have hc : (jJy .lss (s.length : Int) 1 || jJy .gtr (s.length : Int) 12) = true := by
      simp; omega
    rw [hc, cond_true]
    congr 1
    unfold jWr
    rcases hlen with h | h
    · have : s = [] := List.eq_nil_of_length_eq_zero (by omega)
      subst this; rfl
    · cases s with
      | nil => rfl
      | cons c r => simp at h; simp; intro h'; omega
  · have hc : (jJy .lss (s.length : Int) 1 || jJy .gtr (s.length : Int) 12) = false := by
      rw [Bool.or_eq_false_iff]; simp; omega
    rw [hc, cond_false]
    cases s with
    | nil => simp at hlen
    | cons c r =>
      have hr : r.length < 12 := by simp at hlen; omega
      have hbad : ∀ i (hi : i < (c :: r).length), ((!(((jJy .geq ((UInt8.toNat (c :: r)[i] : Nat) : Int) 97) && (jJy .leq ((UInt8.toNat (c :: r)[i] : Nat) : Int) 122)) || ((jJy .geq ((UInt8.toNat (c :: r)[i] : Nat) : Int) 65) && (jJy .leq ((UInt8.toNat (c :: r)[i] : Nat) : Int) 90)))) && ((jJy .eql (i : Int) 0) || ((jJy .neq ((UInt8.toNat (c :: r)[i] : Nat) : Int) 45) && ((jJy .lss ((UInt8.toNat (c :: r)[i] : Nat) : Int) 48) || (jJy .gtr ((UInt8.toNat (c :: r)[i] : Nat) : Int) 57))))) =
          !(if i = 0 then jH9 (c :: r)[i] else jU7 (c :: r)[i]) := by
        intro i hi
        split
        · rename_i h0; subst h0
          simp only [jGl, Int.natCast_zero, decide_true, Bool.true_or, Bool.and_true]
          rfl
        · rename_i h0
          rw [jGl, show decide ((i : Int) = 0) = false by rw [decide_eq_false_iff_not]; omega, Bool.false_or]
          unfold jU7 jH9 chr
          simp only [jBl, jJ9, jG6, jD0, jDq]
          generalize ((UInt8.toNat (c :: r)[i] : Nat) : Int) = x
          rw [Bool.eq_iff_iff]
          simp only [Bool.and_eq_true, Bool.or_eq_true, Bool.not_eq_true', Bool.or_eq_false_iff, Bool.and_eq_false_iff, decide_eq_true_eq, decide_eq_false_iff_not]
          omega
      rw [qJy (c :: r).length (if jWr (c :: r) then .inl () else .inr false) (fun i => ∀ j (h : j < (c :: r).length), j < i → (if j = 0 then jH9 (c :: r)[j] else jU7 (c :: r)[j]) = true) ?_ ?_ (fun j _ h => absurd h (Nat.not_lt_zero _)) N (by simp; omega)]
      · cases jWr (c :: r) <;> rfl
      · intro i hi hp
        unfold qUl
        rw [jJ9, show decide ((i : Int) < ((c :: r).length : Int)) = true by rw [decide_eq_true_eq]; omega, cond_true, jVx hi, bS, hbad i hi, jBc (show i < 9223372036854775807 by simp at hi; omega)]
        cases hg : (if i = 0 then jH9 (c :: r)[i] else jU7 (c :: r)[i]) with
        | true =>
          refine .inl ⟨rfl, fun j hj hji => ?_⟩
          rcases Nat.lt_succ_iff_lt_or_eq.1 hji with h | rfl
          · exact hp j hj h
          · exact hg
        | false =>
          refine .inr ?_
          have : jWr (c :: r) = false := by
            rw [Bool.eq_false_iff]
            intro h
            simp only [jWr, Bool.and_eq_true, decide_eq_true_eq] at h
            obtain ⟨⟨_, h1⟩, h2⟩ := h
            rw [List.all_eq_true] at h2
            cases i with
            | zero => simp [h1] at hg
            | succ i =>
              simp at hg
              have := h2 _ (List.getElem_mem (by simpa using hi : i < r.length))
              rw [this] at hg; cases hg
          rw [this]; rfl
      · intro hp
        unfold qUl
        rw [jJ9, show decide ((((c :: r).length : Nat) : Int) < ((c :: r).length : Int)) = false by simp, cond_false]
        have : jWr (c :: r) = true := by
          simp only [jWr, Bool.and_eq_true, decide_eq_true_eq]
          refine ⟨⟨hr, (by have h := hp 0 (by simp) (by simp); rw [if_pos rfl] at h; exact h)⟩, ?_⟩
          rw [List.all_eq_true]
          intro x hx
          obtain ⟨j, hj, rfl⟩ := List.getElem_of_mem hx
          have := hp (j + 1) (by simp; omega) (by simp; omega)
          simpa using this
        rw [this]; rfl
theorem jT7 {N : Nat} {s : Str} (hN : 13 ≤ N) : jHe N s = some (jWr s) := qWp hN
end Go.KB
namespace Go.KB
set_option linter.unusedVariables false
theorem jT3 {O : Type} {n N : Nat} {f : Int → Option (Int ⊕ O)} (R : Nat → O) (hf : ∀ i : Nat, i < n → (f (i : Int) = some (.inl ((i + 1 : Nat) : Int)) ∧ R i = R (i + 1)) ∨ f (i : Int) = some (.inr (R i))) (he : f (n : Int) = some (.inr (R n))) (hN : n < N) : jXz f N 0 = some (R 0) := by
 have key : ∀ k i, i + k = n → ∀ M, k < M → jXz f M (i : Int) = some (R i) := by
  intro k
  induction k with
  | zero =>
   intro i hi M hM
   obtain ⟨M, rfl⟩ : ∃ m, M = m + 1 := ⟨M - 1, by omega⟩
   have : i = n := by omega
   subst this
   simp only [jXz, he]
  | succ k ih =>
   intro i hi M hM
   obtain ⟨M, rfl⟩ : ∃ m, M = m + 1 := ⟨M - 1, by omega⟩
   rcases hf i (by omega) with ⟨h1, h2⟩ | h1
   ·simp only [jXz, h1]; rw [h2]; exact ih (i + 1) (by omega) M (by omega)
   ·simp only [jXz, h1]
 exact key n 0 (by omega) N (by omega)
theorem drop_at {α : Type} {l : List α} {i : Nat} (h : i < l.length) : l.drop i = l[i] :: l.drop (i + 1) := List.drop_eq_getElem_cons h
theorem qWh {α : Type} {l : List α} {N : Nat} {f : Int → Option (Int ⊕ (Unit ⊕ Bool))} {g : α → Bool} (hf : ∀ (i : Nat) (h : i < l.length), f (i : Int) = bif g l[i] then some (.inl ((i + 1 : Nat) : Int)) else some (.inr (.inr false))) (he : f (l.length : Int) = some (.inr (.inl ()))) (hN : l.length < N) :
  ((jXz f N 0).bind fun o => Sum.elim (fun _ => some true) (fun r => some r) o) = some (l.all g) := by
 rw [jT3 (fun i => bif (l.drop i).all g then .inl () else .inr false) (fun i hi => ?_) (by simp [he]) hN]
 ·simp only [List.drop_zero, bS]; cases l.all g <;> rfl
 ·rw [hf i hi]
  simp only [drop_at hi, List.all_cons]
  cases g l[i]
  ·exact .inr rfl
  ·exact .inl ⟨rfl, by simp⟩
def ixI {α : Type} (g : α → Bool) (l : List α) : Int := if l.findIdx g < l.length then (l.findIdx g : Int) else -1
theorem jHr {α : Type} {l : List α} {N : Nat} {f : Int → Option (Int ⊕ (Unit ⊕ Int))} {g : α → Bool} (hf : ∀ (i : Nat) (h : i < l.length), f (i : Int) = bif g l[i] then some (.inr (.inr (i : Int))) else some (.inl ((i + 1 : Nat) : Int))) (he : f (l.length : Int) = some (.inr (.inl ()))) (hN : l.length < N) :
  ((jXz f N 0).bind fun o => Sum.elim (fun _ => some (-1 : Int)) (fun r => some r) o) = some (ixI g l) := by
 rw [jT3 (fun i => if (l.drop i).findIdx g < (l.drop i).length then .inr (((i + (l.drop i).findIdx g : Nat)) : Int) else .inl ()) (fun i hi => ?_) (by simp [he]) hN]
 ·simp only [List.drop_zero, Nat.zero_add, bS, ixI]; split <;> rfl
 ·rw [hf i hi]
  simp only [drop_at hi, List.findIdx_cons]
  cases g l[i]
  ·refine .inl ⟨rfl, ?_⟩
   simp only [cond_false, List.length_cons, Nat.add_lt_add_iff_right]
   split
   ·congr 2; omega
   ·rfl
  ·refine .inr ?_
   simp only [cond_true, List.length_cons, Nat.zero_lt_succ, if_true, Nat.add_zero]
theorem jF7 {α : Type} {g : α → Bool} {l : List α} (h : l.findIdx g < l.length) : ixI g l = (l.findIdx g : Int) := if_pos h
theorem jMk {α : Type} {g : α → Bool} {l : List α} (h : ¬ l.findIdx g < l.length) : ixI g l = -1 := if_neg h
theorem jM5 {α : Type} {g : α → Bool} {l : List α} : decide (ixI g l < 0) = !l.any g := by
 have : l.any g = true ↔ l.findIdx g < l.length := by
  rw [List.any_eq_true]
  exact List.findIdx_lt_length.symm
 by_cases h : l.findIdx g < l.length
 ·rw [jF7 h, this.2 h]; simp
 ·rw [jMk h, Bool.eq_false_iff.2 (fun x => h (this.1 x))]; rfl
theorem jFn {N : Nat} {s : Str} (hN : 13 ≤ N) : jW8 N s = some (jWr s) := by
  unfold jW8
  by_cases hlen : s.length < 1 ∨ 12 < s.length
  · have hc : (jJy .lss (s.length : Int) 1 || jJy .gtr (s.length : Int) 12) = true := by simp; omega
    rw [hc]
    simp only [Bool.not_true, cond_false, bS, Bool.true_or, cond_true]
    congr 1
    unfold jWr
    rcases hlen with h | h
    · have : s = [] := List.eq_nil_of_length_eq_zero (by omega)
      subst this; rfl
    · cases s with
      | nil => rfl
      | cons c r => simp at h; simp; intro h'; omega
  · have hc : (jJy .lss (s.length : Int) 1 || jJy .gtr (s.length : Int) 12) = false := by rw [Bool.or_eq_false_iff]; simp; omega
    rw [hc]
    cases s with
    | nil => simp at hlen
    | cons c r =>
      have hr : r.length < 12 := by simp at hlen; omega
      have hl : ∀ x : UInt8, jGp N ((UInt8.toNat x : Nat) : Int) = some (jH9 x) := fun x => rfl
      have h0 : idx (c :: r) 0 = some c := by have := jVx (xs := c :: r) (i := 0) (by simp); simpa using this
      simp only [Bool.not_false, cond_true, h0, bS, hl, Bool.false_or]
      cases hc : jH9 c with
      | false => simp [jWr, hc]
      | true =>
        simp only [Bool.not_true, cond_false]
        have h1 : ∀ (i : Nat) (hi : i < (c :: r).length), jKw N (c :: r) (i : Int) = bif jU7 (c :: r)[i] then some (.inl ((i + 1 : Nat) : Int)) else some (.inr (.inr false)) := by
          intro i hi
          unfold jKw
          rw [jJ9, dT (by omega), cond_true, jVx hi, bS, hl, bS, jBc (show i < 9223372036854775807 by simp at hi; omega)]
          have : ((!jH9 (c :: r)[i] && jJy .neq ((UInt8.toNat (c :: r)[i] : Nat) : Int) 45) && (jJy .lss ((UInt8.toNat (c :: r)[i] : Nat) : Int) 48 || jJy .gtr ((UInt8.toNat (c :: r)[i] : Nat) : Int) 57)) = !jU7 (c :: r)[i] := by
            unfold jU7 chr
            cases jH9 (c :: r)[i]
            · simp only [Bool.not_false, Bool.true_and, Bool.false_or, jBl, jJ9, jG6]
              generalize ((UInt8.toNat (c :: r)[i] : Nat) : Int) = x
              rw [Bool.eq_iff_iff]
              simp only [Bool.and_eq_true, Bool.or_eq_true, Bool.not_eq_true', Bool.or_eq_false_iff, Bool.and_eq_false_iff, decide_eq_true_eq, decide_eq_false_iff_not]
              omega
            · simp
          rw [this]
          cases jU7 (c :: r)[i] <;> rfl
        have h2 : jKw N (c :: r) ((c :: r).length : Int) = some (.inr (.inl ())) := by
          unfold jKw
          rw [jJ9, dF (by omega), cond_false]
        rw [qWh h1 h2 (by simp; omega)]
        simp [jWr, hc, jU7, hr]
instance : Inhabited jJ5 := ⟨⟨[], false, []⟩⟩
instance : Inhabited jJu := ⟨⟨[], 0, [], 0, 0, []⟩⟩
instance : Inhabited jJr := ⟨⟨0, 0, 0⟩⟩
def isS (s : Str) (y : jJ5) : Bool := decide (y.Name = s)
def isP (s : Str) (y : jJu) : Bool := decide (y.Name = s)
theorem qZ2 {N : Nat} {l : List jJ5} {f : jJ5 → Option Bool} {g : jJ5 → Bool} (hf : ∀ y, f y = some (g y)) (hl : l.length < 1000000) (hN : 1000000 ≤ N) : jZq N l f = some (ixI g l) := by
 unfold jZq
 refine jHr (fun i hi => ?_) ?_ (by omega)
 ·unfold jX4
  rw [jJ9, dT (by omega), cond_true, jVx hi, bS, hf, bS, jBc (by omega)]
 ·unfold jX4
  rw [jJ9, dF (by omega), cond_false]
theorem jC5 {N : Nat} {l : List jJu} {f : jJu → Option Bool} {g : jJu → Bool} (hf : ∀ y, f y = some (g y)) (hl : l.length < 1000000) (hN : 1000000 ≤ N) : jXw N l f = some (ixI g l) := by
 unfold jXw
 refine jHr (fun i hi => ?_) ?_ (by omega)
 ·unfold jXp
  rw [jJ9, dT (by omega), cond_true, jVx hi, bS, hf, bS, jBc (by omega)]
 ·unfold jXp
  rw [jJ9, dF (by omega), cond_false]
theorem jPs {N : Nat} {p : GPermitPlan} {s : Str} (hl : p.Spaces.length < 1000000) (hN : 1000000 ≤ N) : jUe N p s = some (ixI (isS s) p.Spaces) := by
 unfold jUe
 refine jHr (fun i hi => ?_) ?_ (by omega)
 ·unfold jU5
  rw [jJ9, dT (by omega), cond_true, jVx hi, bS, jUa, jBc (by omega)]; rfl
 ·unfold jU5
  rw [jJ9, dF (by omega), cond_false]
theorem jSq {N : Nat} {p : GPermitPlan} {s : Str} (hl : p.Permits.length < 1000000) (hN : 1000000 ≤ N) : jGq N p s = some (ixI (isP s) p.Permits) := by
 unfold jGq
 refine jHr (fun i hi => ?_) ?_ (by omega)
 ·unfold jUm
  rw [jJ9, dT (by omega), cond_true, jVx hi, bS, jUa, jBc (by omega)]; rfl
 ·unfold jUm
  rw [jJ9, dF (by omega), cond_false]
def jFe {α : Type} (z : α) (g : α → Bool) (l : List α) : α × Bool := match l.find? g with | some y => (y, true) | none => (z, false)
theorem jAy {α : Type} {g : α → Bool} : ∀ {l : List α}, (l.findIdx g < l.length ∧ ∃ h : l.findIdx g < l.length, l.find? g = some l[l.findIdx g]) ∨ (¬ l.findIdx g < l.length ∧ l.find? g = none) := by
 intro l
 by_cases h : l.findIdx g < l.length
 ·refine .inl ⟨h, h, ?_⟩
  exact (List.find?_eq_getElem?_findIdx ..).trans (List.getElem?_eq_getElem h)
 ·refine .inr ⟨h, ?_⟩
  rw [List.find?_eq_getElem?_findIdx, List.getElem?_eq_none (by omega)]
theorem jH8 {N : Nat} {p : GPermitPlan} {s : Str} (hl : p.Spaces.length < 1000000) (hN : 1000000 ≤ N) : jXc N p s = some (jFe ⟨[], false, []⟩ (isS s) p.Spaces) := by
 unfold jXc
 rw [qZ2 (g := isS s) (fun y => by unfold jKv; rw [jUa]; rfl) hl hN, bS, jJ9]
 unfold jFe
 rcases jAy (g := isS s) (l := p.Spaces) with ⟨_, h, h2⟩ | ⟨h, h2⟩
 ·rw [h2, jF7 h, dF (by omega), cond_false, jVx h]; rfl
 ·rw [h2, jMk h]; rfl
theorem jHy {N : Nat} {p : GPermitPlan} {s : Str} (hl : p.Permits.length < 1000000) (hN : 1000000 ≤ N) : jZ3 N p s = some (jFe ⟨[], 0, [], 0, 0, []⟩ (isP s) p.Permits) := by
 unfold jZ3
 rw [jC5 (g := isP s) (fun y => by unfold jYs; rw [jUa]; rfl) hl hN, bS, jJ9]
 unfold jFe
 rcases jAy (g := isP s) (l := p.Permits) with ⟨_, h, h2⟩ | ⟨h, h2⟩
 ·rw [h2, jF7 h, dF (by omega), cond_false, jVx h]; rfl
 ·rw [h2, jMk h]; rfl
theorem jDd {α : Type} {z : α} {g : α → Bool} {l : List α} : (jFe z g l).2 = l.any g := by
 unfold jFe
 cases h : l.find? g with
 | none => simp only []; rw [eq_comm, Bool.eq_false_iff]; intro hx; rw [List.any_eq_true] at hx; obtain ⟨x, hx, hg⟩ := hx; exact absurd hg (by simpa using List.find?_eq_none.1 h x hx)
 | some y => simp only []; rw [eq_comm, List.any_eq_true]; exact ⟨y, List.mem_of_find?_eq_some h, List.find?_some h⟩
end Go.KB
namespace Go.KB
set_option linter.unusedVariables false
def jT6 (a b : Int) : Int := if a = 0 then b else a
def jFx (k : Int) : Bool := decide (0 ≤ k) && decide (k ≤ 5)
def nmS (p : GPermitPlan) (i : Nat) : Str := p.Spaces[i]!.Name
def nmP (p : GPermitPlan) (i : Nat) : Str := p.Permits[i]!.Name
def jPu (p : GPermitPlan) (s : Str) : Bool := p.Spaces.any (isS s)
def jUs (p : GPermitPlan) (s : Str) : Bool := p.Permits.any (isP s)
def atP (p : GPermitPlan) (s : Str) : jJu := (jFe ⟨[], 0, [], 0, 0, []⟩ (isP s) p.Permits).1
def atS (p : GPermitPlan) (s : Str) : jJ5 := (jFe ⟨[], false, []⟩ (isS s) p.Spaces).1
def eSp (p : GPermitPlan) (i : Nat) : Int := if jWr (nmS p i) = false then 4 else if dup (nmS p) i (nmS p i) = true then 5 else if 30 < p.Spaces[i]!.Next.length then 8 else 0
def eNx (p : GPermitPlan) (y : jJ5) (j : Nat) : Int := if jPu p y.Next[j]! = false then 6 else if y.Next[j]! = y.Name then 3 else 0
def qZb (p : GPermitPlan) (i : Nat) : Int := jQ8 (eNx p p.Spaces[i]!) p.Spaces[i]!.Next.length 0
def eEx (p : GPermitPlan) (i : Nat) : Int := if jFx p.Exclusions[i]!.A = false ∨ jFx p.Exclusions[i]!.B = false ∨ p.Exclusions[i]!.Reach < 0 ∨ 2 < p.Exclusions[i]!.Reach then 2 else 0
def ePm (p : GPermitPlan) (i : Nat) : Int := if jWr (nmP p i) = false then 4 else if dup (nmP p) i (nmP p i) = true then 5 else
 if jFx p.Permits[i]!.Kind = false ∨ p.Permits[i]!.From < 0 ∨ p.Permits[i]!.To ≤ p.Permits[i]!.From ∨ 1000000 < p.Permits[i]!.To then 2 else if jPu p p.Permits[i]!.Space = false then 6 else if 10 < p.Permits[i]!.Locks.length then 8 else 0
def eLk (p : GPermitPlan) (y : jJu) (j : Nat) : Int := if jUs p y.Locks[j]! = false then 6 else if (atP p y.Locks[j]!).Kind ≠ 5 ∨ y.Kind = 5 then 3 else 0
def qKz (p : GPermitPlan) (i : Nat) : Int := jQ8 (eLk p p.Permits[i]!) p.Permits[i]!.Locks.length 0
def jYx (p : GPermitPlan) : Int := if 30 < p.Spaces.length ∨ 30 < p.Exclusions.length ∨ 20 < p.Permits.length then 8 else if p.GasMinutes < 1 ∨ 10000 < p.GasMinutes then 2 else
 jT6 (jT6 (jQ8 (eSp p) p.Spaces.length 0) (jQ8 (qZb p) p.Spaces.length 0)) (jT6 (jQ8 (eEx p) p.Exclusions.length 0) (jT6 (jQ8 (ePm p) p.Permits.length 0) (jQ8 (qKz p) p.Permits.length 0)))
structure SmP (p : GPermitPlan) : Prop where
 s : p.Spaces.length < 1000
 x : p.Exclusions.length < 1000
 m : p.Permits.length < 1000
 n : ∀ y ∈ p.Spaces, y.Next.length < 1000
 l : ∀ y ∈ p.Permits, y.Locks.length < 1000
theorem jFb {α : Type} [Inhabited α] {l : List α} {i : Nat} (h : i < l.length) : l[i]! ∈ l := by rw [jTf h]; exact List.getElem_mem h
theorem jU9 {A : Type} {fin : A} {E : Int} {K : A → Option Int} : ((some (jHh (Sum.inl fin) (fun e => Sum.inr e) E) : Option (A ⊕ Int)).bind fun o => Sum.elim (fun l => K l) (fun r => some r) o) = if E = 0 then K fin else some E := by
 unfold jHh
 by_cases h : E = 0
 ·rw [if_pos h, if_pos h]; rfl
 ·rw [if_neg h, if_neg h]; rfl
theorem qZc {α : Type} [Inhabited α] {nm : α → Str} {x : Str} {l : List α} {i : Nat} (hi : i ≤ l.length) : dup (fun j => nm l[j]!) i x = (decide (0 ≤ ixI (fun y => decide (nm y = x)) l) && decide (ixI (fun y => decide (nm y = x)) l < (i : Int))) := by
 rw [Bool.eq_iff_iff, jA6, Bool.and_eq_true, decide_eq_true_eq, decide_eq_true_eq]
 constructor
 ·rintro ⟨j, hj, hx⟩
  have hjl : j < l.length := by omega
  rw [jTf hjl] at hx
  have hle : l.findIdx (fun y => decide (nm y = x)) ≤ j := by
   rcases Nat.lt_or_ge j (l.findIdx (fun y => decide (nm y = x))) with h | h
   ·exact absurd (List.not_of_lt_findIdx h) (by simp [hx])
   ·exact h
  rw [jF7 (by omega)]
  omega
 ·rintro ⟨h1, h2⟩
  by_cases h : l.findIdx (fun y => decide (nm y = x)) < l.length
  ·rw [jF7 h] at h2
   refine ⟨l.findIdx (fun y => decide (nm y = x)), by omega, ?_⟩
   show nm l[l.findIdx (fun y => decide (nm y = x))]! = x
   rw [jTf h]
   have := List.findIdx_getElem (xs := l) (p := fun y => decide (nm y = x)) (w := h)
   simpa using this
  ·rw [jMk h] at h1; omega
theorem qUy {α : Type} [Inhabited α] {nm : α → Str} {x : Str} {l : List α} : dup (fun j => nm l[j]!) l.length x = l.any (fun y => decide (nm y = x)) := by
 rw [qZc (Nat.le_refl _)]
 have := jM5 (g := fun y => decide (nm y = x)) (l := l)
 by_cases h : l.findIdx (fun y => decide (nm y = x)) < l.length
 ·rw [jF7 h] at this ⊢
  rw [dF (by omega)] at this
  rw [dT (by omega), dT (by omega)]
  cases hx : l.any (fun y => decide (nm y = x)) with
  | true => rfl
  | false => rw [hx] at this; cases this
 ·rw [jMk h] at this ⊢
  cases hx : l.any (fun y => decide (nm y = x)) with
  | false => rfl
  | true => rw [hx] at this; cases this
theorem qWq {N : Nat} {k : Int} : jG1 N k = some (jFx k) := rfl
theorem qYa {N : Nat} {k : Int} : jHf N k = some (jFx k) := rfl
section
variable {N : Nat} {p : GPermitPlan} (hp : SmP p) (hN : 1000000 ≤ N)
include hp hN
theorem cs3 : jXz (jWq N p) N (([] : List (Str × Bool)), 0) = some (jHh (.inl (seen (nmS p) p.Spaces.length)) (fun e => .inr e) (jQ8 (eSp p) p.Spaces.length 0)) := by
 have hs := hp.s
 refine jR1 (fun i => (seen (nmS p) i, (i : Int))) (fun i hi _ => ?_) (fun _ => ?_) (by omega)
 ·unfold jWq eSp
  simp only []
  rw [jJ9, dT (by omega), cond_true, jAd hi, bS, jFn (by omega), bS, jPd, jBc (by omega), jG6]
  show (bif !jWr (nmS p i) then _ else bif dup (nmS p) i (nmS p i) then _ else _) = _
  cases jWr (nmS p i) with
  | false => rfl
  | true =>
   cases dup (nmS p) i (nmS p i) with
   | true => rfl
   | false =>
    by_cases h : 30 < p.Spaces[i]!.Next.length
    ·rw [dT (show (30 : Int) < (p.Spaces[i]!.Next.length : Int) by omega), if_pos h]; rfl
    ·rw [dF (show ¬ (30 : Int) < (p.Spaces[i]!.Next.length : Int) by omega), if_neg h]; rfl
 ·unfold jWq
  simp only []
  rw [jJ9, dF (by omega), cond_false]
theorem cs1 {y : jJ5} (hy : y ∈ p.Spaces) : jXz (jWx N (seen (nmS p) p.Spaces.length) y) N 0 = some (jHh (.inl ()) (fun e => .inr e) (jQ8 (eNx p y) y.Next.length 0)) := by
 have hl := hp.n y hy
 refine jHp (fun i hi _ => ?_) (fun _ => ?_) (by omega)
 ·unfold jWx eNx
  rw [jJ9, dT (by omega), cond_true, jAd hi, bS, jPd, show dup (nmS p) p.Spaces.length y.Next[i]! = jPu p y.Next[i]! from qUy, jBc (by omega), jUa]
  cases jPu p y.Next[i]! with
  | false => rfl
  | true =>
   by_cases h : y.Next[i]! = y.Name
   ·rw [dT h, if_pos h]; rfl
   ·rw [dF h, if_neg h]; rfl
 ·unfold jWx
  rw [jJ9, dF (by omega), cond_false]
theorem cs2 : jXz (jWj N p (seen (nmS p) p.Spaces.length)) N 0 = some (jHh (.inl ()) (fun e => .inr e) (jQ8 (qZb p) p.Spaces.length 0)) := by
 have hs := hp.s
 refine jHp (fun i hi _ => ?_) (fun _ => ?_) (by omega)
 ·unfold jWj
  rw [jJ9, dT (by omega), cond_true, jAd hi, bS, cs1 hp hN (jFb hi), jBc (by omega), bS]
  show Sum.elim _ _ (jHh _ _ (qZb p i)) = _
  unfold jHh
  by_cases h : qZb p i = 0
  ·rw [if_pos h, if_pos h]; rfl
  ·rw [if_neg h, if_neg h]; rfl
 ·unfold jWj
  rw [jJ9, dF (by omega), cond_false]
theorem jR3 : jKd N p = some (jT6 (jQ8 (eSp p) p.Spaces.length 0) (jQ8 (qZb p) p.Spaces.length 0)) := by
 unfold jKd
 rw [cs3 hp hN, jU9, cs2 hp hN, jU9]
 unfold jT6
 split
 ·split
  ·rename_i h; rw [h]
  ·rfl
 ·rfl
theorem rcs3 : jXz (jWb N p) N 0 = some (jHh (.inl ()) (fun e => .inr e) (jQ8 (eSp p) p.Spaces.length 0)) := by
 have hs := hp.s
 refine jHp (fun i hi _ => ?_) (fun _ => ?_) (by omega)
 ·unfold jWb eSp
  rw [jJ9, dT (by omega), cond_true, jAd hi, bS, jT7 (by omega), bS]
  have hd : jU6 N p (i : Int) (nmS p i) = some (dup (nmS p) i (nmS p i)) := by
   unfold jU6
   rw [jPs (by omega) hN, bS, jD0, jJ9]
   exact congrArg some (qZc (nm := jJ5.Name) (x := nmS p i) (l := p.Spaces) (Nat.le_of_lt hi)).symm
  rw [bS, show jU6 N p (i : Int) p.Spaces[i]!.Name = _ from hd, bS, bS, jBc (by omega), jG6]
  show (bif !jWr (nmS p i) then _ else bif dup (nmS p) i (nmS p i) then _ else _) = _
  cases jWr (nmS p i) with
  | false => rfl
  | true =>
   cases dup (nmS p) i (nmS p i) with
   | true => rfl
   | false =>
    by_cases h : 30 < p.Spaces[i]!.Next.length
    ·rw [dT (show (30 : Int) < (p.Spaces[i]!.Next.length : Int) by omega), if_pos h]; rfl
    ·rw [dF (show ¬ (30 : Int) < (p.Spaces[i]!.Next.length : Int) by omega), if_neg h]; rfl
 ·unfold jWb
  rw [jJ9, dF (by omega), cond_false]
theorem rcs1 {i : Nat} (hi : i < p.Spaces.length) : jXz (jWh N p (i : Int)) N 0 = some (jHh (.inl ()) (fun e => .inr e) (qZb p i)) := by
 have hl := hp.n _ (jFb hi)
 have hs := hp.s
 refine jHp (fun j hj _ => ?_) (fun _ => ?_) (by omega)
 ·unfold jWh eNx
  rw [jAd hi, bS, jJ9, dT (by omega), cond_true, bS, jAd hj, bS, jPs (by omega) hN, bS, jJ9, jM5, bS, jAd hj, bS, bS, jBc (by omega), jUa]
  show (bif !jPu p _ then _ else _) = _
  cases jPu p p.Spaces[i]!.Next[j]! with
  | false => rfl
  | true =>
   by_cases h : p.Spaces[i]!.Next[j]! = p.Spaces[i]!.Name
   ·rw [dT h, if_pos h]; rfl
   ·rw [dF h, if_neg h]; rfl
 ·unfold jWh
  rw [jAd hi, bS, jJ9, dF (by omega), cond_false]
theorem rcs2 : jXz (jWd N p) N 0 = some (jHh (.inl ()) (fun e => .inr e) (jQ8 (qZb p) p.Spaces.length 0)) := by
 have hs := hp.s
 refine jHp (fun i hi _ => ?_) (fun _ => ?_) (by omega)
 ·unfold jWd
  rw [jJ9, dT (by omega), cond_true, rcs1 hp hN hi, jBc (by omega), bS]
  unfold jHh
  by_cases h : qZb p i = 0
  ·rw [if_pos h, if_pos h]; rfl
  ·rw [if_neg h, if_neg h]; rfl
 ·unfold jWd
  rw [jJ9, dF (by omega), cond_false]
theorem jRz : jKs N p = some (jT6 (jQ8 (eSp p) p.Spaces.length 0) (jQ8 (qZb p) p.Spaces.length 0)) := by
 unfold jKs
 rw [rcs3 hp hN, jU9, rcs2 hp hN, jU9]
 unfold jT6
 split
 ·split
  ·rename_i h; rw [h]
  ·rfl
 ·rfl
omit hp hN in
theorem ex_eq {a b : Bool} {r : Int} : ((((!a) || (!(bif !(!a) then b else false))) || (jJy .lss r 0)) || (jJy .gtr r 2)) = decide (a = false ∨ b = false ∨ r < 0 ∨ 2 < r) := by
 rw [Bool.eq_iff_iff, jJ9, jG6]
 cases a <;> cases b <;> simp
omit hN in
theorem exL (hN2 : p.Exclusions.length < N) : jXz (jW1 N p) N 0 = some (jHh (.inl ()) (fun e => .inr e) (jQ8 (eEx p) p.Exclusions.length 0)) := by
 have hs := hp.x
 refine jHp (fun i hi _ => ?_) (fun _ => ?_) hN2
 ·unfold jW1 eEx
  simp only [qWq]
  rw [jJ9, dT (by omega), cond_true, jAd hi, bS, bS, jTg, bS, jBc (by omega), ex_eq]
  by_cases h : jFx p.Exclusions[i]!.A = false ∨ jFx p.Exclusions[i]!.B = false ∨ p.Exclusions[i]!.Reach < 0 ∨ 2 < p.Exclusions[i]!.Reach
  ·rw [dT h, if_pos h]; rfl
  ·rw [dF h, if_neg h]; rfl
 ·unfold jW1
  rw [jJ9, dF (by omega), cond_false]
omit hN in
theorem rexL (hN2 : p.Exclusions.length < N) : jXz (jUv N p) N 0 = some (jHh (.inl ()) (fun e => .inr e) (jQ8 (eEx p) p.Exclusions.length 0)) := exL hp hN2
omit hp hN in
theorem rg_eq {a : Bool} {x y : Int} : ((((!a) || (jJy .lss x 0)) || (jJy .geq x y)) || (jJy .gtr y 1000000)) = decide (a = false ∨ x < 0 ∨ y ≤ x ∨ 1000000 < y) := by
 rw [Bool.eq_iff_iff, jJ9, jG6, jD0]
 cases a <;> simp [or_assoc]
theorem pm3 : jXz (jV5 N p) N (([] : List (Str × Bool)), 0) = some (jHh (.inl ()) (fun e => .inr e) (jQ8 (ePm p) p.Permits.length 0)) := by
 have hs := hp.s
 have hm := hp.m
 refine jR1 (fun i => (seen (nmP p) i, (i : Int))) (fun i hi _ => ?_) (fun _ => ?_) (by omega)
 ·unfold jV5 ePm
  simp only []
  rw [jJ9, dT (by omega), cond_true, jAd hi, bS, jH8 (by omega) hN, bS, jFn (by omega), bS, jPd, jBc (by omega), qWq, bS, rg_eq, jDd, jG6]
  show (bif !jWr (nmP p i) then _ else bif dup (nmP p) i (nmP p i) then _ else bif _ then _ else bif !jPu p p.Permits[i]!.Space then _ else _) = _
  cases jWr (nmP p i) with
  | false => rfl
  | true =>
   cases dup (nmP p) i (nmP p i) with
   | true => rfl
   | false =>
    by_cases h : jFx p.Permits[i]!.Kind = false ∨ p.Permits[i]!.From < 0 ∨ p.Permits[i]!.To ≤ p.Permits[i]!.From ∨ 1000000 < p.Permits[i]!.To
    ·rw [dT h, if_pos h]; rfl
    ·rw [dF h, if_neg h]
     cases jPu p p.Permits[i]!.Space with
     | false => rfl
     | true =>
      by_cases h : 10 < p.Permits[i]!.Locks.length
      ·rw [dT (show (10 : Int) < (p.Permits[i]!.Locks.length : Int) by omega), if_pos h]; rfl
      ·rw [dF (show ¬ (10 : Int) < (p.Permits[i]!.Locks.length : Int) by omega), if_neg h]; rfl
 ·unfold jV5
  simp only []
  rw [jJ9, dF (by omega), cond_false]
theorem rpm3 : jXz (jYy N p) N 0 = some (jHh (.inl ()) (fun e => .inr e) (jQ8 (ePm p) p.Permits.length 0)) := by
 have hs := hp.s
 have hm := hp.m
 refine jHp (fun i hi _ => ?_) (fun _ => ?_) (by omega)
 ·unfold jYy ePm
  have hd : jJy .lss (ixI (isP p.Permits[i]!.Name) p.Permits) (i : Int) = dup (nmP p) i (nmP p i) := by
   have h1 := qZc (nm := jJu.Name) (x := nmP p i) (l := p.Permits) (Nat.le_of_lt hi)
   have h2 : (0 : Int) ≤ ixI (isP p.Permits[i]!.Name) p.Permits := by
    have := jM5 (g := isP p.Permits[i]!.Name) (l := p.Permits)
    have h3 : p.Permits.any (isP p.Permits[i]!.Name) = true := List.any_eq_true.2 ⟨_, jFb hi, by simp [isP]⟩
    rw [h3] at this
    simpa using this
   rw [jJ9]
   show _ = dup (fun j => p.Permits[j]!.Name) i (nmP p i)
   rw [h1]
   show _ = (decide ((0 : Int) ≤ ixI (isP p.Permits[i]!.Name) p.Permits) && decide (ixI (isP p.Permits[i]!.Name) p.Permits < (i : Int)))
   rw [dT h2, Bool.true_and]
  rw [jJ9, dT (by omega), cond_true, jAd hi, bS, jT7 (by omega), bS, jSq (by omega) hN, bS, hd, qYa, bS, rg_eq, jPs (by omega) hN, bS, jJ9, jM5, jG6, jBc (by omega)]
  show (bif !jWr (nmP p i) then _ else bif dup (nmP p) i (nmP p i) then _ else bif _ then _ else bif !jPu p p.Permits[i]!.Space then _ else _) = _
  cases jWr (nmP p i) with
  | false => rfl
  | true =>
   cases dup (nmP p) i (nmP p i) with
   | true => rfl
   | false =>
    by_cases h : jFx p.Permits[i]!.Kind = false ∨ p.Permits[i]!.From < 0 ∨ p.Permits[i]!.To ≤ p.Permits[i]!.From ∨ 1000000 < p.Permits[i]!.To
    ·rw [dT h, if_pos h]; rfl
    ·rw [dF h, if_neg h]
     cases jPu p p.Permits[i]!.Space with
     | false => rfl
     | true =>
      by_cases h : 10 < p.Permits[i]!.Locks.length
      ·rw [dT (show (10 : Int) < (p.Permits[i]!.Locks.length : Int) by omega), if_pos h]; rfl
      ·rw [dF (show ¬ (10 : Int) < (p.Permits[i]!.Locks.length : Int) by omega), if_neg h]; rfl
 ·unfold jYy
  rw [jJ9, dF (by omega), cond_false]
omit hp hN in
theorem lk_eq {a b : Int} : ((jJy .neq a 5) || (jJy .eql b 5)) = decide (a ≠ 5 ∨ b = 5) := by
 rw [Bool.eq_iff_iff, jBl, jGl]; simp
theorem lk1 {y : jJu} (hy : y ∈ p.Permits) : jXz (jV4 N p y) N 0 = some (jHh (.inl ()) (fun e => .inr e) (jQ8 (eLk p y) y.Locks.length 0)) := by
 have hm := hp.m
 have hl := hp.l y hy
 refine jHp (fun i hi _ => ?_) (fun _ => ?_) (by omega)
 ·unfold jV4 eLk
  rw [jJ9, dT (by omega), cond_true, jAd hi, bS, jHy (by omega) hN, bS, jDd, lk_eq, jBc (by omega)]
  show (bif !jUs p y.Locks[i]! then _ else bif decide ((atP p y.Locks[i]!).Kind ≠ 5 ∨ y.Kind = 5) then _ else _) = _
  cases jUs p y.Locks[i]! with
  | false => rfl
  | true =>
   by_cases h : (atP p y.Locks[i]!).Kind ≠ 5 ∨ y.Kind = 5
   ·rw [dT h, if_pos h]; rfl
   ·rw [dF h, if_neg h]; rfl
 ·unfold jV4
  rw [jJ9, dF (by omega), cond_false]
theorem lk2 : jXz (jV2 N p) N 0 = some (jHh (.inl ()) (fun e => .inr e) (jQ8 (qKz p) p.Permits.length 0)) := by
 have hm := hp.m
 refine jHp (fun i hi _ => ?_) (fun _ => ?_) (by omega)
 ·unfold jV2
  rw [jJ9, dT (by omega), cond_true, jAd hi, bS, lk1 hp hN (jFb hi), jBc (by omega), bS]
  show Sum.elim _ _ (jHh _ _ (qKz p i)) = _
  unfold jHh
  by_cases h : qKz p i = 0
  ·rw [if_pos h, if_pos h]; rfl
  ·rw [if_neg h, if_neg h]; rfl
 ·unfold jV2
  rw [jJ9, dF (by omega), cond_false]
theorem rlk1 {y : jJu} (hy : y ∈ p.Permits) : jXz (jYu N p y) N 0 = some (jHh (.inl ()) (fun e => .inr e) (jQ8 (eLk p y) y.Locks.length 0)) := by
 have hm := hp.m
 have hl := hp.l y hy
 refine jHp (fun i hi _ => ?_) (fun _ => ?_) (by omega)
 ·unfold jYu eLk
  rw [jJ9, dT (by omega), cond_true, jAd hi, bS, jSq (by omega) hN, bS, jJ9, jM5, jBc (by omega)]
  show (bif !jUs p y.Locks[i]! then _ else _) = _
  cases hx : jUs p y.Locks[i]! with
  | false => rfl
  | true =>
   rw [Bool.not_true, cond_false]
   have hg : idx p.Permits (ixI (isP y.Locks[i]!) p.Permits) = some (atP p y.Locks[i]!) := by
    unfold atP jFe
    rcases jAy (g := isP y.Locks[i]!) (l := p.Permits) with ⟨_, h, h2⟩ | ⟨h, h2⟩
    ·rw [h2, jF7 h, jVx h]
    ·have := jM5 (g := isP y.Locks[i]!) (l := p.Permits)
     rw [show p.Permits.any (isP y.Locks[i]!) = true from hx, jMk h] at this
     cases this
   rw [hg, bS, lk_eq]
   by_cases h : (atP p y.Locks[i]!).Kind ≠ 5 ∨ y.Kind = 5
   ·rw [dT h, if_pos h]; rfl
   ·rw [dF h, if_neg h]; rfl
 ·unfold jYu
  rw [jJ9, dF (by omega), cond_false]
theorem rlk2 : jXz (jYw N p) N 0 = some (jHh (.inl ()) (fun e => .inr e) (jQ8 (qKz p) p.Permits.length 0)) := by
 have hm := hp.m
 refine jHp (fun i hi _ => ?_) (fun _ => ?_) (by omega)
 ·unfold jYw
  rw [jJ9, dT (by omega), cond_true, jAd hi, bS, rlk1 hp hN (jFb hi), jBc (by omega), bS]
  show Sum.elim _ _ (jHh _ _ (qKz p i)) = _
  unfold jHh
  by_cases h : qKz p i = 0
  ·rw [if_pos h, if_pos h]; rfl
  ·rw [if_neg h, if_neg h]; rfl
 ·unfold jYw
  rw [jJ9, dF (by omega), cond_false]
theorem jRd : jKj N p = some (jT6 (jQ8 (ePm p) p.Permits.length 0) (jQ8 (qKz p) p.Permits.length 0)) := by
 unfold jKj
 rw [pm3 hp hN, jU9, lk2 hp hN, jU9]
 unfold jT6
 split
 ·split
  ·rename_i h; rw [h]
  ·rfl
 ·rfl
omit hp hN in
theorem qY4 : (((jJy .gtr (List.length p.Spaces : Int) 30) || (jJy .gtr (List.length p.Exclusions : Int) 30)) || (jJy .gtr (List.length p.Permits : Int) 20)) = decide (30 < p.Spaces.length ∨ 30 < p.Exclusions.length ∨ 20 < p.Permits.length) := by
 rw [Bool.eq_iff_iff]; simp only [jG6, Bool.or_eq_true, decide_eq_true_eq]; omega
omit hp hN in
theorem qKw {g : Int} : ((jJy .lss g 1) || (jJy .gtr g 10000)) = decide (g < 1 ∨ 10000 < g) := by
 rw [Bool.eq_iff_iff]; simp
theorem jLh : jWu N p = some (jYx p) := by
  have hx := hp.x
  unfold jWu jYx
  rw [qY4, qKw]
  by_cases h : 30 < p.Spaces.length ∨ 30 < p.Exclusions.length ∨ 20 < p.Permits.length
  · rw [dT h, if_pos h]; rfl
  · rw [dF h, if_neg h, cond_false]
    by_cases h : p.GasMinutes < 1 ∨ 10000 < p.GasMinutes
    · rw [dT h, if_pos h]; rfl
    · rw [dF h, if_neg h, cond_false, jR3 hp hN, bS, jBl]
      generalize jT6 (jQ8 (eSp p) p.Spaces.length 0) (jQ8 (qZb p) p.Spaces.length 0) = E
      unfold jT6
      by_cases h : E = 0
      · rw [dT h, if_pos h, Bool.not_true, cond_false, exL hp (by omega), jU9, jRd hp hN]
        unfold jT6
        split
        · rfl
        · rfl
      · rw [dF h, if_neg h]; rfl
theorem jTb : jUg N p = some (jYx p) := by
  have hx := hp.x
  unfold jUg jYx
  rw [qY4, qKw]
  by_cases h : 30 < p.Spaces.length ∨ 30 < p.Exclusions.length ∨ 20 < p.Permits.length
  · rw [dT h, if_pos h]; rfl
  · rw [dF h, if_neg h, cond_false]
    by_cases h : p.GasMinutes < 1 ∨ 10000 < p.GasMinutes
    · rw [dT h, if_pos h]; rfl
    · rw [dF h, if_neg h, cond_false, jRz hp hN, bS, jBl]
      generalize jT6 (jQ8 (eSp p) p.Spaces.length 0) (jQ8 (qZb p) p.Spaces.length 0) = E
      unfold jT6
      by_cases h : E = 0
      · rw [dT h, if_pos h, Bool.not_true, cond_false, rexL hp (by omega), jU9, rpm3 hp hN, jU9, rlk2 hp hN, jU9]
        split
        · split
          · split
            · rename_i h1 h2 h3; rw [h3]
            · rfl
          · rfl
        · rfl
      · rw [dF h, if_neg h]; rfl
end
end Go.KB
namespace Go.KB
set_option linter.unusedVariables false
theorem qYk {N : Nat} (p : GPermitPlan) (hN : 1000000 ≤ N) : jGs N p = some true ∨ (jGs N p = some false ∧ SmP p ∧ p.Spaces.length ≤ 40 ∧ p.Exclusions.length ≤ 40 ∧ p.Permits.length ≤ 30 ∧ (∀ y ∈ p.Spaces, y.Next.length ≤ 40 ∧ y.Name.length ≤ 40) ∧ ∀ y ∈ p.Permits, y.Locks.length ≤ 20 ∧ y.Name.length ≤ 40) := by
  unfold jGs
  have hb : (((jJy .gtr (List.length p.Spaces : Int) 40) || (jJy .gtr (List.length p.Exclusions : Int) 40)) || (jJy .gtr (List.length p.Permits : Int) 30)) = decide (40 < p.Spaces.length ∨ 40 < p.Exclusions.length ∨ 30 < p.Permits.length) := by
    rw [Bool.eq_iff_iff]; simp only [jG6, Bool.or_eq_true, decide_eq_true_eq]; omega
  rw [hb]
  by_cases h : 40 < p.Spaces.length ∨ 40 < p.Exclusions.length ∨ 30 < p.Permits.length
  · rw [dT h]; exact .inl rfl
  rw [dF h, cond_false]
  have hs : ∀ (i : Nat) (hi : i < p.Spaces.length), jYd N p (i : Int) = bif (decide (40 < p.Spaces[i].Next.length) || decide (40 < p.Spaces[i].Name.length)) then some (.inr (.inr true)) else some (.inl ((i + 1 : Nat) : Int)) := by
    intro i hi
    unfold jYd
    rw [jJ9, dT (by omega), cond_true, jVx hi, bS, jBc (by omega)]
    simp only [jG6]
    by_cases h1 : 40 < p.Spaces[i].Next.length
    · rw [dT h1, dT (show (40 : Int) < (p.Spaces[i].Next.length : Int) by omega)]; rfl
    · rw [dF h1, dF (show ¬ (40 : Int) < (p.Spaces[i].Next.length : Int) by omega), Bool.not_false, cond_true, bS, Bool.false_or, Bool.false_or]
      by_cases h2 : 40 < p.Spaces[i].Name.length
      · rw [dT h2, dT (show (40 : Int) < (p.Spaces[i].Name.length : Int) by omega)]
      · rw [dF h2, dF (show ¬ (40 : Int) < (p.Spaces[i].Name.length : Int) by omega)]
  have hs2 : jYd N p (p.Spaces.length : Int) = some (.inr (.inl ())) := by
    unfold jYd
    rw [jJ9, dF (by omega), cond_false]
  have hm : ∀ (i : Nat) (hi : i < p.Permits.length), jYf N p (i : Int) = bif (decide (20 < p.Permits[i].Locks.length) || decide (40 < p.Permits[i].Name.length)) then some (.inr (.inr true)) else some (.inl ((i + 1 : Nat) : Int)) := by
    intro i hi
    unfold jYf
    rw [jJ9, dT (by omega), cond_true, jVx hi, bS, jBc (by omega)]
    simp only [jG6]
    by_cases h1 : 20 < p.Permits[i].Locks.length
    · rw [dT h1, dT (show (20 : Int) < (p.Permits[i].Locks.length : Int) by omega)]; rfl
    · rw [dF h1, dF (show ¬ (20 : Int) < (p.Permits[i].Locks.length : Int) by omega), Bool.not_false, cond_true, bS, Bool.false_or, Bool.false_or]
      by_cases h2 : 40 < p.Permits[i].Name.length
      · rw [dT h2, dT (show (40 : Int) < (p.Permits[i].Name.length : Int) by omega)]
      · rw [dF h2, dF (show ¬ (40 : Int) < (p.Permits[i].Name.length : Int) by omega)]
  have hm2 : jYf N p (p.Permits.length : Int) = some (.inr (.inl ())) := by
    unfold jYf
    rw [jJ9, dF (by omega), cond_false]
  have e1 := jT3 (N := N) (fun i => bif (p.Spaces.drop i).any (fun y => decide (40 < y.Next.length) || decide (40 < y.Name.length)) then .inr true else .inl ()) (f := jYd N p) (n := p.Spaces.length) (fun i hi => by
    rw [hs i hi]
    simp only [drop_at hi, List.any_cons]
    cases (decide (40 < p.Spaces[i].Next.length) || decide (40 < p.Spaces[i].Name.length))
    · exact .inl ⟨rfl, by simp⟩
    · exact .inr rfl) (by rw [hs2]; simp) (by omega)
  have e2 := jT3 (N := N) (fun i => bif (p.Permits.drop i).any (fun y => decide (20 < y.Locks.length) || decide (40 < y.Name.length)) then .inr true else .inl ()) (f := jYf N p) (n := p.Permits.length) (fun i hi => by
    rw [hm i hi]
    simp only [drop_at hi, List.any_cons]
    cases (decide (20 < p.Permits[i].Locks.length) || decide (40 < p.Permits[i].Name.length))
    · exact .inl ⟨rfl, by simp⟩
    · exact .inr rfl) (by rw [hm2]; simp) (by omega)
  rw [e1, e2]
  simp only [List.drop_zero, bS]
  cases ha : p.Spaces.any (fun y => decide (40 < y.Next.length) || decide (40 < y.Name.length)) with
  | true => exact .inl rfl
  | false =>
    cases hc : p.Permits.any (fun y => decide (20 < y.Locks.length) || decide (40 < y.Name.length)) with
    | true => exact .inl rfl
    | false =>
      have ha' : ∀ y ∈ p.Spaces, y.Next.length ≤ 40 ∧ y.Name.length ≤ 40 := fun y hy => by
        have := List.any_eq_false.1 ha y hy
        simp only [Bool.or_eq_true, decide_eq_true_eq, not_or] at this
        omega
      have hc' : ∀ y ∈ p.Permits, y.Locks.length ≤ 20 ∧ y.Name.length ≤ 40 := fun y hy => by
        have := List.any_eq_false.1 hc y hy
        simp only [Bool.or_eq_true, decide_eq_true_eq, not_or] at this
        omega
      exact .inr ⟨rfl, ⟨by omega, by omega, by omega, fun y hy => by have := (ha' y hy).1; omega, fun y hy => by have := (hc' y hy).1; omega⟩, by omega, by omega, by omega, ha', hc'⟩
end Go.KB
