/- Plain laws of chapter 7: loops, names, sets of names. No condition. -/
import Derived.Test.YtblfmjackdhajaaPZa
import Derived.Test.YtblfmjackdhajaaGPure
namespace Go.KB
set_option linter.unusedVariables false
theorem w64i {n : Int} (h0 : -9223372036854775808 ≤ n) (h1 : n ≤ 9223372036854775807) : IntKind.i64.wrap n = n := jNg h0 h1
theorem dT {p : Prop} [Decidable p] (h : p) : decide p = true := decide_eq_true h
theorem dF {p : Prop} [Decidable p] (h : ¬p) : decide p = false := decide_eq_false h
def jVz (e : Nat → Int) : Nat → Nat → Int
 | 0, _ => 0
 | k + 1, i => if e i = 0 then jVz e k (i + 1) else e i
theorem jB5 {e : Nat → Int} : ∀ {k i : Nat}, jVz e k i = 0 → ∀ j, i ≤ j → j < i + k → e j = 0 := by
 intro k
 induction k with
 | zero => intro i _ j h1 h2; omega
 | succ k ih =>
  intro i h j h1 h2
  simp only [jVz] at h
  split at h
  ·rename_i h0
   rcases Nat.eq_or_lt_of_le h1 with rfl | h1
   ·exact h0
   ·exact ih h j h1 (by omega)
  ·rename_i h0; exact absurd h h0
theorem jF9 {e e' : Nat → Int} : ∀ {k i : Nat}, (∀ j, i ≤ j → j < i + k → (∀ m, i ≤ m → m < j → e m = 0) → e j = e' j) → jVz e k i = jVz e' k i := by
 intro k
 induction k with
 | zero => intro i _; rfl
 | succ k ih =>
  intro i h
  have h0 := h i (Nat.le_refl _) (by omega) (fun m h1 h2 => by omega)
  simp only [jVz]
  rw [← h0]
  by_cases hz : e i = 0
  ·rw [if_pos hz, if_pos hz]
   refine ih fun j h1 h2 h3 => h j (by omega) (by omega) fun m hm1 hm2 => ?_
   rcases Nat.eq_or_lt_of_le hm1 with rfl | hm1
   ·exact hz
   ·exact h3 m hm1 hm2
  ·rw [if_neg hz, if_neg hz]
def jCy {O : Type} (fin : O) (err : Int → O) (z : Int) : O := if z = 0 then fin else err z
theorem jFc {e : Nat → Int} {k i : Nat} (h : e i = 0) : jVz e (k + 1) i = jVz e k (i + 1) := by simp [jVz, h]
theorem jPt {e : Nat → Int} {k i : Nat} (h : e i ≠ 0) : jVz e (k + 1) i = e i := by simp [jVz, h]
theorem jR3 {O : Type} {n N : Nat} {f : Int → Option (Int ⊕ O)} {e : Nat → Int} {fin : O} {err : Int → O} (hf : ∀ i : Nat, i < n → (∀ j, j < i → e j = 0) → f (i : Int) = if e i = 0 then some (.inl ((i + 1 : Nat) : Int)) else some (.inr (err (e i)))) (he : (∀ j, j < n → e j = 0) → f (n : Int) = some (.inr fin)) (hN : n < N) :
  jZl f N 0 = some (jCy fin err (jVz e n 0)) := by
 have key : ∀ k i, i + k = n → (∀ j, j < i → e j = 0) → ∀ M, k < M → jZl f M (i : Int) = some (jCy fin err (jVz e k i)) := by
  intro k
  induction k with
  | zero =>
   intro i hi hz M hM
   obtain ⟨M, rfl⟩ : ∃ m, M = m + 1 := ⟨M - 1, by omega⟩
   have : i = n := by omega
   subst this
   simp only [jZl, he hz, jVz]; rfl
  | succ k ih =>
   intro i hi hz M hM
   obtain ⟨M, rfl⟩ : ∃ m, M = m + 1 := ⟨M - 1, by omega⟩
   simp only [jZl, hf i (by omega) hz]
   by_cases h0 : e i = 0
   ·rw [if_pos h0, jFc h0]
    exact ih (i + 1) (by omega) (fun j hj => by
     rcases Nat.lt_succ_iff_lt_or_eq.1 hj with h | rfl
     ·exact hz j h
     ·exact h0) M (by omega)
   ·rw [if_neg h0, jPt h0]
    unfold jCy
    rw [if_neg h0]
 exact key n 0 (by omega) (fun j hj => absurd hj (Nat.not_lt_zero _)) N (by omega)
theorem jF2 {n N : Nat} {f : Int → Option (Int ⊕ (Unit ⊕ Int))} {e : Nat → Int} (hf : ∀ i : Nat, i < n → (∀ j, j < i → e j = 0) → f (i : Int) = if e i = 0 then some (.inl ((i + 1 : Nat) : Int)) else some (.inr (.inr (e i)))) (he : (∀ j, j < n → e j = 0) → f (n : Int) = some (.inr (.inl ()))) (hN : n < N) :
  ((jZl f N 0).bind fun o => Sum.elim (fun _ => some (0 : Int)) (fun r => some r) o) = some (jVz e n 0) := by
 rw [jR3 hf he hN]
 unfold jCy
 by_cases h : jVz e n 0 = 0
 ·rw [if_pos h, bS, h]; rfl
 ·rw [if_neg h]; rfl
theorem jSc {α : Type} [Inhabited α] {l : List α} {i : Nat} (h : i < l.length) : l[i]! = l[i] := by simp [h]
theorem idxB {α : Type} [Inhabited α] {l : List α} {i : Nat} (h : i < l.length) : idx l (i : Int) = some l[i]! := by rw [jKm h, jSc h]
theorem idxP {α : Type} [Inhabited α] {l : List α} {i : Nat} (h : i < l.length) (h0 : i ≠ 0) (hl : l.length < 1000000) : idx l (IntKind.i64.wrap ((i : Int) - 1)) = some l[i - 1]! := by
 rw [w64i (by omega) (by omega), show (i : Int) - 1 = ((i - 1 : Nat) : Int) by omega, idxB (by omega)]
theorem jDa : ∀ {k i : Nat}, jVz (fun _ => 0) k i = 0 := by
 intro k
 induction k with
 | zero => intro i; rfl
 | succ n ih => intro i; rw [jFc (e := fun _ => 0) rfl]; exact ih
theorem jM1 {α β : Type} [DecidableEq α] (z : β) (x k : α) (y : β) : ∀ m : List (α × β), jQ2 z (jW0 m x y) k = if k = x then y else jQ2 z m k
 | [] => by
  by_cases h : k = x
  ·subst h; simp [jQ2, jW0]
  ·simp [jQ2, jW0, h]
 | p :: r => by
  by_cases hp : x = p.1
  ·subst hp
   by_cases h : k = p.1
   ·subst h; simp [jQ2, jW0]
   ·simp [jQ2, jW0, h]
  ·by_cases h : k = p.1
   ·subst h; simp [jQ2, jW0, hp, Ne.symm hp]
   ·simp [jQ2, jW0, hp, h, jM1 z x k y r]
theorem jAk (a b : Str) : jZj .eql a b = decide (a = b) := by
 unfold jZj
 rw [Bool.eq_iff_iff]
 simp
theorem jRn (a b : Str) : jZj .neq a b = !decide (a = b) := by
 rw [← jAk]; rfl
def seen (nm : Nat → Str) : Nat → List (Str × Bool)
 | 0 => []
 | i + 1 => jW0 (seen nm i) (nm i) true
def same (nm : Nat → Str) (x : Str) (j : Nat) : Int := if nm j = x then 5 else 0
def jT4 (x0 : Str) (s1 : Int) : Option (Int ⊕ (Unit ⊕ Bool)) :=
 bif (jJw .lss s1 (List.length x0 : Int)) then ((idx x0 s1).bind fun v2 => bif ((!(((jJw .geq ((UInt8.toNat v2 : Nat) : Int) 97) && (jJw .leq ((UInt8.toNat v2 : Nat) : Int) 122)) || ((jJw .geq ((UInt8.toNat v2 : Nat) : Int) 65) && (jJw .leq ((UInt8.toNat v2 : Nat) : Int) 90)))) && ((jJw .eql s1 0) || ((jJw .neq ((UInt8.toNat v2 : Nat) : Int) 45) && ((jJw .lss ((UInt8.toNat v2 : Nat) : Int) 48) || (jJw .gtr ((UInt8.toNat v2 : Nat) : Int) 57))))) then (some (.inr (Sum.inr false))) else (some (.inl (IntKind.i64.wrap (s1 + 1))))) else (some (.inr (Sum.inl ())))
def qJ3 (N : Nat) (x0 : Str) : Option (Bool) :=
 bif ((jJw .lss (List.length x0 : Int) 1) || (jJw .gtr (List.length x0 : Int) 12)) then (some false) else ((jZl (jT4 x0) N 0).bind fun o5 => Sum.elim (fun l7 => some true) (fun r8 => some r8) o5)
theorem jR5 {N : Nat} {s : Str} (hN : 13 ≤ N) : qJ3 N s = some (jYl s) := by
  unfold qJ3
  by_cases hlen : s.length < 1 ∨ 12 < s.length
  · have hc : (jJw .lss (s.length : Int) 1 || jJw .gtr (s.length : Int) 12) = true := by
      simp; omega
    rw [hc, cnT]
    congr 1
    unfold jYl
    rcases hlen with h | h
    · have : s = [] := List.eq_nil_of_length_eq_zero (by omega)
      subst this; rfl
    · cases s with
      | nil => rfl
      | cons c r => simp at h; simp; intro h'; omega
  · have hc : (jJw .lss (s.length : Int) 1 || jJw .gtr (s.length : Int) 12) = false := by
      rw [Bool.or_eq_false_iff]; simp; omega
    rw [hc, cnF]
    cases s with
    | nil => simp at hlen
    | cons c r =>
      have hr : r.length < 12 := by simp at hlen; omega
      have hbad : ∀ i (hi : i < (c :: r).length), ((!(((jJw .geq ((UInt8.toNat (c :: r)[i] : Nat) : Int) 97) && (jJw .leq ((UInt8.toNat (c :: r)[i] : Nat) : Int) 122)) || ((jJw .geq ((UInt8.toNat (c :: r)[i] : Nat) : Int) 65) && (jJw .leq ((UInt8.toNat (c :: r)[i] : Nat) : Int) 90)))) && ((jJw .eql (i : Int) 0) || ((jJw .neq ((UInt8.toNat (c :: r)[i] : Nat) : Int) 45) && ((jJw .lss ((UInt8.toNat (c :: r)[i] : Nat) : Int) 48) || (jJw .gtr ((UInt8.toNat (c :: r)[i] : Nat) : Int) 57))))) =
          !(if i = 0 then jBu (c :: r)[i] else jG3 (c :: r)[i]) := by
        intro i hi
        split
        · rename_i h0; subst h0
          simp only [jPm, Int.natCast_zero, decide_true, Bool.true_or, Bool.and_true]
          rfl
        · rename_i h0
          rw [jPm, show decide ((i : Int) = 0) = false by rw [decide_eq_false_iff_not]; omega, Bool.false_or]
          unfold jG3 jBu chr
          simp only [jUh, jX8, jYg, jPd, jMy]
          generalize ((UInt8.toNat (c :: r)[i] : Nat) : Int) = x
          rw [Bool.eq_iff_iff]
          simp only [Bool.and_eq_true, Bool.or_eq_true, Bool.not_eq_true', Bool.or_eq_false_iff, Bool.and_eq_false_iff, decide_eq_true_eq, decide_eq_false_iff_not]
          omega
      rw [jHq (c :: r).length (if jYl (c :: r) then .inl () else .inr false) (fun i => ∀ j (h : j < (c :: r).length), j < i → (if j = 0 then jBu (c :: r)[j] else jG3 (c :: r)[j]) = true) ?_ ?_ (fun j _ h => absurd h (Nat.not_lt_zero _)) N (by simp; omega)]
      · cases jYl (c :: r) <;> rfl
      · intro i hi hp
        unfold jT4
        rw [jX8, show decide ((i : Int) < ((c :: r).length : Int)) = true by rw [decide_eq_true_eq]; omega, cnT, jKm hi, bS, hbad i hi, jNe (show i < 9223372036854775807 by simp at hi; omega)]
        cases hg : (if i = 0 then jBu (c :: r)[i] else jG3 (c :: r)[i]) with
        | true =>
          refine .inl ⟨rfl, fun j hj hji => ?_⟩
          rcases Nat.lt_succ_iff_lt_or_eq.1 hji with h | rfl
          · exact hp j hj h
          · exact hg
        | false =>
          refine .inr ?_
          have : jYl (c :: r) = false := by
            rw [Bool.eq_false_iff]
            intro h
            simp only [jYl, Bool.and_eq_true, decide_eq_true_eq] at h
            obtain ⟨⟨_, h1⟩, h2⟩ := h
            rw [List.all_eq_true] at h2
            cases i with
            | zero => simp [h1] at hg
            | succ i =>
              simp at hg
              have := h2 _ (List.getElem_mem (by simpa using hi : i < r.length))
              rw [this] at hg; cases hg
          rw [this]; rfl
      · intro hp
        unfold jT4
        rw [jX8, show decide ((((c :: r).length : Nat) : Int) < ((c :: r).length : Int)) = false by simp, cnF]
        have : jYl (c :: r) = true := by
          simp only [jYl, Bool.and_eq_true, decide_eq_true_eq]
          refine ⟨⟨hr, (by have h := hp 0 (by simp) (by simp); rw [if_pos rfl] at h; exact h)⟩, ?_⟩
          rw [List.all_eq_true]
          intro x hx
          obtain ⟨j, hj, rfl⟩ := List.getElem_of_mem hx
          have := hp (j + 1) (by simp; omega) (by simp; omega)
          simpa using this
        rw [this]; rfl
theorem jT3 {N : Nat} {s : Str} (hN : 13 ≤ N) : jUr N s = some (jYl s) := jR5 hN
end Go.KB
