/- Plain laws of chapter 7: loops, names, sets of names. Plain laws of chapter 7: searches, names, places of spaces and permits. Plain laws of chapter 7: CheckPlan. Plain laws of chapter 7: which plans are looked at. No condition. -/
import Derived.Test.YtekbfkfjhgfieaaGreatPZa
import Derived.Test.YtekbfkfjhgfieaaGreatGPure
namespace Go.KB
set_option linter.unusedVariables false
theorem w64i {n : Int} (h0 : -9223372036854775808 ≤ n) (h1 : n ≤ 9223372036854775807) : IntKind.i64.wrap n = n := jCl h0 h1
theorem dT {p : Prop} [Decidable p] (h : p) : decide p = true := decide_eq_true h
theorem dF {p : Prop} [Decidable p] (h : ¬p) : decide p = false := decide_eq_false h
def jXx (e : Nat → Int) : Nat → Nat → Int
 | 0, _ => 0
 | k + 1, i => if e i = 0 then jXx e k (i + 1) else e i
theorem jFp {e : Nat → Int} : ∀ {k i : Nat}, jXx e k i = 0 → ∀ j, i ≤ j → j < i + k → e j = 0 := by
 intro k
 induction k with
 | zero => intro i _ j h1 h2; omega
 | succ k ih =>
  intro i h j h1 h2
  simp only [jXx] at h
  split at h
  ·rename_i h0
   rcases Nat.eq_or_lt_of_le h1 with rfl | h1
   ·exact h0
   ·exact ih h j h1 (by omega)
  ·rename_i h0; exact absurd h h0
theorem jR4 {e e' : Nat → Int} : ∀ {k i : Nat}, (∀ j, i ≤ j → j < i + k → (∀ m, i ≤ m → m < j → e m = 0) → e j = e' j) → jXx e k i = jXx e' k i := by
 intro k
 induction k with
 | zero => intro i _; rfl
 | succ k ih =>
  intro i h
  have h0 := h i (Nat.le_refl _) (by omega) (fun m h1 h2 => by omega)
  simp only [jXx]
  rw [← h0]
  by_cases hz : e i = 0
  ·rw [if_pos hz, if_pos hz]
   refine ih fun j h1 h2 h3 => h j (by omega) (by omega) fun m hm1 hm2 => ?_
   rcases Nat.eq_or_lt_of_le hm1 with rfl | hm1
   ·exact hz
   ·exact h3 m hm1 hm2
  ·rw [if_neg hz, if_neg hz]
def jHc {O : Type} (fin : O) (err : Int → O) (z : Int) : O := if z = 0 then fin else err z
theorem jMv {e : Nat → Int} {k i : Nat} (h : e i = 0) : jXx e (k + 1) i = jXx e k (i + 1) := by simp [jXx, h]
theorem jP3 {e : Nat → Int} {k i : Nat} (h : e i ≠ 0) : jXx e (k + 1) i = e i := by simp [jXx, h]
theorem jHt {O : Type} {n N : Nat} {f : Int → Option (Int ⊕ O)} {e : Nat → Int} {fin : O} {err : Int → O} (hf : ∀ i : Nat, i < n → (∀ j, j < i → e j = 0) → f (i : Int) = if e i = 0 then some (.inl ((i + 1 : Nat) : Int)) else some (.inr (err (e i)))) (he : (∀ j, j < n → e j = 0) → f (n : Int) = some (.inr fin)) (hN : n < N) :
  jXh f N 0 = some (jHc fin err (jXx e n 0)) := by
 have key : ∀ k i, i + k = n → (∀ j, j < i → e j = 0) → ∀ M, k < M → jXh f M (i : Int) = some (jHc fin err (jXx e k i)) := by
  intro k
  induction k with
  | zero =>
   intro i hi hz M hM
   obtain ⟨M, rfl⟩ : ∃ m, M = m + 1 := ⟨M - 1, by omega⟩
   have : i = n := by omega
   subst this
   simp only [jXh, he hz, jXx]; rfl
  | succ k ih =>
   intro i hi hz M hM
   obtain ⟨M, rfl⟩ : ∃ m, M = m + 1 := ⟨M - 1, by omega⟩
   simp only [jXh, hf i (by omega) hz]
   by_cases h0 : e i = 0
   ·rw [if_pos h0, jMv h0]
    exact ih (i + 1) (by omega) (fun j hj => by
     rcases Nat.lt_succ_iff_lt_or_eq.1 hj with h | rfl
     ·exact hz j h
     ·exact h0) M (by omega)
   ·rw [if_neg h0, jP3 h0]
    unfold jHc
    rw [if_neg h0]
 exact key n 0 (by omega) (fun j hj => absurd hj (Nat.not_lt_zero _)) N (by omega)
theorem jC6 {S O : Type} {n N : Nat} {f : S → Option (S ⊕ O)} {e : Nat → Int} {fin : O} {err : Int → O} (g : Nat → S) (hf : ∀ i : Nat, i < n → (∀ j, j < i → e j = 0) → f (g i) = if e i = 0 then some (.inl (g (i + 1))) else some (.inr (err (e i)))) (he : (∀ j, j < n → e j = 0) → f (g n) = some (.inr fin)) (hN : n < N) :
  jXh f N (g 0) = some (jHc fin err (jXx e n 0)) := by
 have key : ∀ k i, i + k = n → (∀ j, j < i → e j = 0) → ∀ M, k < M → jXh f M (g i) = some (jHc fin err (jXx e k i)) := by
  intro k
  induction k with
  | zero =>
   intro i hi hz M hM
   obtain ⟨M, rfl⟩ : ∃ m, M = m + 1 := ⟨M - 1, by omega⟩
   have : i = n := by omega
   subst this
   simp only [jXh, he hz, jXx]; rfl
  | succ k ih =>
   intro i hi hz M hM
   obtain ⟨M, rfl⟩ : ∃ m, M = m + 1 := ⟨M - 1, by omega⟩
   simp only [jXh, hf i (by omega) hz]
   by_cases h0 : e i = 0
   ·rw [if_pos h0, jMv h0]
    exact ih (i + 1) (by omega) (fun j hj => by
     rcases Nat.lt_succ_iff_lt_or_eq.1 hj with h | rfl
     ·exact hz j h
     ·exact h0) M (by omega)
   ·rw [if_neg h0, jP3 h0]
    unfold jHc
    rw [if_neg h0]
 exact key n 0 (by omega) (fun j hj => absurd hj (Nat.not_lt_zero _)) N (by omega)
theorem jTr {α : Type} [Inhabited α] {l : List α} {i : Nat} (h : i < l.length) : l[i]! = l[i] := by simp [h]
theorem jAx {α : Type} [Inhabited α] {l : List α} {i : Nat} (h : i < l.length) : idx l (i : Int) = some l[i]! := by rw [jVw h, jTr h]
theorem jS9 {α : Type} {b : Bool} {x y : α} : (bif b then some x else some y) = some (bif b then x else y) := by cases b <;> rfl
theorem jCm : ∀ {k i : Nat}, jXx (fun _ => 0) k i = 0 := by
 intro k
 induction k with
 | zero => intro i; rfl
 | succ n ih => intro i; rw [jMv (e := fun _ => 0) rfl]; exact ih
theorem jLh {α β : Type} [DecidableEq α] (z : β) (x k : α) (y : β) : ∀ m : List (α × β), jZj z (jHd m x y) k = if k = x then y else jZj z m k
 | [] => by
  by_cases h : k = x
  ·subst h; simp [jZj, jHd]
  ·simp [jZj, jHd, h]
 | p :: r => by
  by_cases hp : x = p.1
  ·subst hp
   by_cases h : k = p.1
   ·subst h; simp [jZj, jHd]
   ·simp [jZj, jHd, h]
  ·by_cases h : k = p.1
   ·subst h; simp [jZj, jHd, hp, Ne.symm hp]
   ·simp [jZj, jHd, hp, h, jLh z x k y r]
theorem jUs (a b : Str) : jUx .eql a b = decide (a = b) := by
 unfold jUx
 rw [Bool.eq_iff_iff]
 simp
theorem qY3 (a b : Str) : jUx .neq a b = !decide (a = b) := by
 rw [← jUs]; rfl
def dup (nm : Nat → Str) : Nat → Str → Bool
 | 0, _ => false
 | i + 1, x => decide (x = nm i) || dup nm i x
def seen (nm : Nat → Str) : Nat → List (Str × Bool)
 | 0 => []
 | i + 1 => jHd (seen nm i) (nm i) true
theorem jPg (nm : Nat → Str) (x : Str) : ∀ i, jZj false (seen nm i) x = dup nm i x
 | 0 => rfl
 | i + 1 => by
  simp only [seen, dup, jLh, jPg nm x i]
  by_cases h : x = nm i <;> simp [h]
theorem jA8 (nm : Nat → Str) (x : Str) : ∀ i, dup nm i x = true ↔ ∃ j, j < i ∧ nm j = x
 | 0 => by simp [dup]
 | i + 1 => by
  simp only [dup, Bool.or_eq_true, decide_eq_true_eq, jA8 nm x i]
  constructor
  ·rintro (h | ⟨j, h1, h2⟩)
   ·exact ⟨i, by omega, h.symm⟩
   ·exact ⟨j, by omega, h2⟩
  ·rintro ⟨j, h1, h2⟩
   by_cases hj : j = i
   ·subst hj; exact .inl h2.symm
   ·exact .inr ⟨j, by omega, h2⟩
def same (nm : Nat → Str) (x : Str) (j : Nat) : Int := if nm j = x then 5 else 0
def qK4 (x0 : Str) (s1 : Int) : Option (Int ⊕ (Unit ⊕ Bool)) :=
 bif (jJy .lss s1 (List.length x0 : Int)) then ((idx x0 s1).bind fun v2 => bif ((!(((jJy .geq ((UInt8.toNat v2 : Nat) : Int) 97) && (jJy .leq ((UInt8.toNat v2 : Nat) : Int) 122)) || ((jJy .geq ((UInt8.toNat v2 : Nat) : Int) 65) && (jJy .leq ((UInt8.toNat v2 : Nat) : Int) 90)))) && ((jJy .eql s1 0) || ((jJy .neq ((UInt8.toNat v2 : Nat) : Int) 45) && ((jJy .lss ((UInt8.toNat v2 : Nat) : Int) 48) || (jJy .gtr ((UInt8.toNat v2 : Nat) : Int) 57))))) then (some (.inr (Sum.inr false))) else (some (.inl (IntKind.i64.wrap (s1 + 1))))) else (some (.inr (Sum.inl ())))
def nameF (N : Nat) (x0 : Str) : Option (Bool) :=
 bif ((jJy .lss (List.length x0 : Int) 1) || (jJy .gtr (List.length x0 : Int) 12)) then (some false) else ((jXh (qK4 x0) N 0).bind fun o5 => Sum.elim (fun l7 => some true) (fun r8 => some r8) o5)
theorem qWt {N : Nat} {s : Str} (hN : 13 ≤ N) : nameF N s = some (jWb s) := by
  unfold nameF
  by_cases hlen : s.length < 1 ∨ 12 < s.length
  · have hc : (jJy .lss (s.length : Int) 1 || jJy .gtr (s.length : Int) 12) = true := by
      simp; omega
    rw [hc, cond_true]
    congr 1
    unfold jWb
    rcases hlen with h | h
    · have : s = [] := List.eq_nil_of_length_eq_zero (by omega)
      subst this; rfl
    · cases s with
      | nil => rfl
      | cons c r => simp at h; simp; intro h'; omega
  · have hc : (jJy .lss (s.length : Int) 1 || jJy .gtr (s.length : Int) 12) = false := by
      rw [Bool.or_eq_false_iff]; simp; omega
    rw [hc, cond_false]
    cases s with
    | nil => simp at hlen
    | cons c r =>
      have hr : r.length < 12 := by simp at hlen; omega
      have hbad : ∀ i (hi : i < (c :: r).length), ((!(((jJy .geq ((UInt8.toNat (c :: r)[i] : Nat) : Int) 97) && (jJy .leq ((UInt8.toNat (c :: r)[i] : Nat) : Int) 122)) || ((jJy .geq ((UInt8.toNat (c :: r)[i] : Nat) : Int) 65) && (jJy .leq ((UInt8.toNat (c :: r)[i] : Nat) : Int) 90)))) && ((jJy .eql (i : Int) 0) || ((jJy .neq ((UInt8.toNat (c :: r)[i] : Nat) : Int) 45) && ((jJy .lss ((UInt8.toNat (c :: r)[i] : Nat) : Int) 48) || (jJy .gtr ((UInt8.toNat (c :: r)[i] : Nat) : Int) 57))))) =
          !(if i = 0 then jBj (c :: r)[i] else jU8 (c :: r)[i]) := by
        intro i hi
        split
        · rename_i h0; subst h0
          simp only [jUt, Int.natCast_zero, decide_true, Bool.true_or, Bool.and_true]
          rfl
        · rename_i h0
          rw [jUt, show decide ((i : Int) = 0) = false by rw [decide_eq_false_iff_not]; omega, Bool.false_or]
          unfold jU8 jBj chr
          simp only [jH2, jQq, jGr, jDw, jB9]
          generalize ((UInt8.toNat (c :: r)[i] : Nat) : Int) = x
          rw [Bool.eq_iff_iff]
          simp only [Bool.and_eq_true, Bool.or_eq_true, Bool.not_eq_true', Bool.or_eq_false_iff, Bool.and_eq_false_iff, decide_eq_true_eq, decide_eq_false_iff_not]
          omega
      rw [jAv (c :: r).length (if jWb (c :: r) then .inl () else .inr false) (fun i => ∀ j (h : j < (c :: r).length), j < i → (if j = 0 then jBj (c :: r)[j] else jU8 (c :: r)[j]) = true) ?_ ?_ (fun j _ h => absurd h (Nat.not_lt_zero _)) N (by simp; omega)]
      · cases jWb (c :: r) <;> rfl
      · intro i hi hp
        unfold qK4
        rw [jQq, show decide ((i : Int) < ((c :: r).length : Int)) = true by rw [decide_eq_true_eq]; omega, cond_true, jVw hi, bS, hbad i hi, jDb (show i < 9223372036854775807 by simp at hi; omega)]
        cases hg : (if i = 0 then jBj (c :: r)[i] else jU8 (c :: r)[i]) with
        | true =>
          refine .inl ⟨rfl, fun j hj hji => ?_⟩
          rcases Nat.lt_succ_iff_lt_or_eq.1 hji with h | rfl
          · exact hp j hj h
          · exact hg
        | false =>
          refine .inr ?_
          have : jWb (c :: r) = false := by
            rw [Bool.eq_false_iff]
            intro h
            simp only [jWb, Bool.and_eq_true, decide_eq_true_eq] at h
            obtain ⟨⟨_, h1⟩, h2⟩ := h
            rw [List.all_eq_true] at h2
            cases i with
            | zero => simp [h1] at hg
            | succ i =>
              simp at hg
              have := h2 _ (List.getElem_mem (by simpa using hi : i < r.length))
              rw [this] at hg; cases hg
          rw [this]; rfl
      · intro hp
        unfold qK4
        rw [jQq, show decide ((((c :: r).length : Nat) : Int) < ((c :: r).length : Int)) = false by simp, cond_false]
        have : jWb (c :: r) = true := by
          simp only [jWb, Bool.and_eq_true, decide_eq_true_eq]
          refine ⟨⟨hr, (by have h := hp 0 (by simp) (by simp); rw [if_pos rfl] at h; exact h)⟩, ?_⟩
          rw [List.all_eq_true]
          intro x hx
          obtain ⟨j, hj, rfl⟩ := List.getElem_of_mem hx
          have := hp (j + 1) (by simp; omega) (by simp; omega)
          simpa using this
        rw [this]; rfl
theorem jTa {N : Nat} {s : Str} (hN : 13 ≤ N) : jHn N s = some (jWb s) := qWt hN
end Go.KB
namespace Go.KB
set_option linter.unusedVariables false
theorem jSb {O : Type} {n N : Nat} {f : Int → Option (Int ⊕ O)} (R : Nat → O) (hf : ∀ i : Nat, i < n → (f (i : Int) = some (.inl ((i + 1 : Nat) : Int)) ∧ R i = R (i + 1)) ∨ f (i : Int) = some (.inr (R i))) (he : f (n : Int) = some (.inr (R n))) (hN : n < N) : jXh f N 0 = some (R 0) := by
 have key : ∀ k i, i + k = n → ∀ M, k < M → jXh f M (i : Int) = some (R i) := by
  intro k
  induction k with
  | zero =>
   intro i hi M hM
   obtain ⟨M, rfl⟩ : ∃ m, M = m + 1 := ⟨M - 1, by omega⟩
   have : i = n := by omega
   subst this
   simp only [jXh, he]
  | succ k ih =>
   intro i hi M hM
   obtain ⟨M, rfl⟩ : ∃ m, M = m + 1 := ⟨M - 1, by omega⟩
   rcases hf i (by omega) with ⟨h1, h2⟩ | h1
   ·simp only [jXh, h1]; rw [h2]; exact ih (i + 1) (by omega) M (by omega)
   ·simp only [jXh, h1]
 exact key n 0 (by omega) N (by omega)
theorem drop_at {α : Type} {l : List α} {i : Nat} (h : i < l.length) : l.drop i = l[i] :: l.drop (i + 1) := List.drop_eq_getElem_cons h
theorem qYf {α : Type} {l : List α} {N : Nat} {f : Int → Option (Int ⊕ (Unit ⊕ Bool))} {g : α → Bool} (hf : ∀ (i : Nat) (h : i < l.length), f (i : Int) = bif g l[i] then some (.inl ((i + 1 : Nat) : Int)) else some (.inr (.inr false))) (he : f (l.length : Int) = some (.inr (.inl ()))) (hN : l.length < N) :
  ((jXh f N 0).bind fun o => Sum.elim (fun _ => some true) (fun r => some r) o) = some (l.all g) := by
 rw [jSb (fun i => bif (l.drop i).all g then .inl () else .inr false) (fun i hi => ?_) (by simp [he]) hN]
 ·simp only [List.drop_zero, bS]; cases l.all g <;> rfl
 ·rw [hf i hi]
  simp only [drop_at hi, List.all_cons]
  cases g l[i]
  ·exact .inr rfl
  ·exact .inl ⟨rfl, by simp⟩
theorem qYg {α : Type} {l : List α} {N : Nat} {f : Int → Option (Int ⊕ (Unit ⊕ Bool))} {g : α → Bool} (hf : ∀ (i : Nat) (h : i < l.length), f (i : Int) = bif g l[i] then some (.inr (.inr true)) else some (.inl ((i + 1 : Nat) : Int))) (he : f (l.length : Int) = some (.inr (.inl ()))) (hN : l.length < N) :
  ((jXh f N 0).bind fun o => Sum.elim (fun _ => some false) (fun r => some r) o) = some (l.any g) := by
 rw [jSb (fun i => bif (l.drop i).any g then .inr true else .inl ()) (fun i hi => ?_) (by simp [he]) hN]
 ·simp only [List.drop_zero, bS]; cases l.any g <;> rfl
 ·rw [hf i hi]
  simp only [drop_at hi, List.any_cons]
  cases g l[i]
  ·exact .inl ⟨rfl, by simp⟩
  ·exact .inr rfl
def ixI {α : Type} (g : α → Bool) (l : List α) : Int := if l.findIdx g < l.length then (l.findIdx g : Int) else -1
theorem jHl {α : Type} {l : List α} {N : Nat} {f : Int → Option (Int ⊕ (Unit ⊕ Int))} {g : α → Bool} (hf : ∀ (i : Nat) (h : i < l.length), f (i : Int) = bif g l[i] then some (.inr (.inr (i : Int))) else some (.inl ((i + 1 : Nat) : Int))) (he : f (l.length : Int) = some (.inr (.inl ()))) (hN : l.length < N) :
  ((jXh f N 0).bind fun o => Sum.elim (fun _ => some (-1 : Int)) (fun r => some r) o) = some (ixI g l) := by
 rw [jSb (fun i => if (l.drop i).findIdx g < (l.drop i).length then .inr (((i + (l.drop i).findIdx g : Nat)) : Int) else .inl ()) (fun i hi => ?_) (by simp [he]) hN]
 ·simp only [List.drop_zero, Nat.zero_add, bS, ixI]; split <;> rfl
 ·rw [hf i hi]
  simp only [drop_at hi, List.findIdx_cons]
  cases g l[i]
  ·refine .inl ⟨rfl, ?_⟩
   simp only [cond_false, List.length_cons, Nat.add_lt_add_iff_right]
   split
   ·congr 2; omega
   ·rfl
  ·refine .inr ?_
   simp only [cond_true, List.length_cons, Nat.zero_lt_succ, if_true, Nat.add_zero]
theorem jFt {α : Type} {g : α → Bool} {l : List α} (h : l.findIdx g < l.length) : ixI g l = (l.findIdx g : Int) := if_pos h
theorem jMq {α : Type} {g : α → Bool} {l : List α} (h : ¬ l.findIdx g < l.length) : ixI g l = -1 := if_neg h
theorem jMs {α : Type} {g : α → Bool} {l : List α} : decide (ixI g l < 0) = !l.any g := by
 have : l.any g = true ↔ l.findIdx g < l.length := by
  rw [List.any_eq_true]
  exact List.findIdx_lt_length.symm
 by_cases h : l.findIdx g < l.length
 ·rw [jFt h, this.2 h]; simp
 ·rw [jMq h, Bool.eq_false_iff.2 (fun x => h (this.1 x))]; rfl
theorem jFb {N : Nat} {s : Str} (hN : 13 ≤ N) : jYj N s = some (jWb s) := by
  unfold jYj
  by_cases hlen : s.length < 1 ∨ 12 < s.length
  · have hc : (jJy .lss (s.length : Int) 1 || jJy .gtr (s.length : Int) 12) = true := by simp; omega
    rw [hc]
    simp only [Bool.not_true, cond_false, bS, Bool.true_or, cond_true]
    congr 1
    unfold jWb
    rcases hlen with h | h
    · have : s = [] := List.eq_nil_of_length_eq_zero (by omega)
      subst this; rfl
    · cases s with
      | nil => rfl
      | cons c r => simp at h; simp; intro h'; omega
  · have hc : (jJy .lss (s.length : Int) 1 || jJy .gtr (s.length : Int) 12) = false := by rw [Bool.or_eq_false_iff]; simp; omega
    rw [hc]
    cases s with
    | nil => simp at hlen
    | cons c r =>
      have hr : r.length < 12 := by simp at hlen; omega
      have hl : ∀ x : UInt8, jGh N ((UInt8.toNat x : Nat) : Int) = some (jBj x) := fun x => rfl
      have h0 : idx (c :: r) 0 = some c := by have := jVw (xs := c :: r) (i := 0) (by simp); simpa using this
      simp only [Bool.not_false, cond_true, h0, bS, hl, Bool.false_or]
      cases hc : jBj c with
      | false => simp [jWb, hc]
      | true =>
        simp only [Bool.not_true, cond_false]
        have h1 : ∀ (i : Nat) (hi : i < (c :: r).length), jKx N (c :: r) (i : Int) = bif jU8 (c :: r)[i] then some (.inl ((i + 1 : Nat) : Int)) else some (.inr (.inr false)) := by
          intro i hi
          unfold jKx
          rw [jQq, dT (by omega), cond_true, jVw hi, bS, hl, bS, jDb (show i < 9223372036854775807 by simp at hi; omega)]
          have : ((!jBj (c :: r)[i] && jJy .neq ((UInt8.toNat (c :: r)[i] : Nat) : Int) 45) && (jJy .lss ((UInt8.toNat (c :: r)[i] : Nat) : Int) 48 || jJy .gtr ((UInt8.toNat (c :: r)[i] : Nat) : Int) 57)) = !jU8 (c :: r)[i] := by
            unfold jU8 chr
            cases jBj (c :: r)[i]
            · simp only [Bool.not_false, Bool.true_and, Bool.false_or, jH2, jQq, jGr]
              generalize ((UInt8.toNat (c :: r)[i] : Nat) : Int) = x
              rw [Bool.eq_iff_iff]
              simp only [Bool.and_eq_true, Bool.or_eq_true, Bool.not_eq_true', Bool.or_eq_false_iff, Bool.and_eq_false_iff, decide_eq_true_eq, decide_eq_false_iff_not]
              omega
            · simp
          rw [this]
          cases jU8 (c :: r)[i] <;> rfl
        have h2 : jKx N (c :: r) ((c :: r).length : Int) = some (.inr (.inl ())) := by
          unfold jKx
          rw [jQq, dF (by omega), cond_false]
        rw [qYf h1 h2 (by simp; omega)]
        simp [jWb, hc, jU8, hr]
instance : Inhabited jJ5 := ⟨⟨[], false, []⟩⟩
instance : Inhabited jJu := ⟨⟨[], 0, [], 0, 0, []⟩⟩
instance : Inhabited jJt := ⟨⟨0, 0, 0⟩⟩
def isS (s : Str) (y : jJ5) : Bool := decide (y.Name = s)
def isP (s : Str) (y : jJu) : Bool := decide (y.Name = s)
theorem qWq {N : Nat} {l : List jJ5} {f : jJ5 → Option Bool} {g : jJ5 → Bool} (hf : ∀ y, f y = some (g y)) (hl : l.length < 1000000) (hN : 1000000 ≤ N) : jZz N l f = some (ixI g l) := by
 unfold jZz
 refine jHl (fun i hi => ?_) ?_ (by omega)
 ·unfold jX4
  rw [jQq, dT (by omega), cond_true, jVw hi, bS, hf, bS, jDb (by omega)]
 ·unfold jX4
  rw [jQq, dF (by omega), cond_false]
theorem qWz {N : Nat} {l : List jJu} {f : jJu → Option Bool} {g : jJu → Bool} (hf : ∀ y, f y = some (g y)) (hl : l.length < 1000000) (hN : 1000000 ≤ N) : jX7 N l f = some (ixI g l) := by
 unfold jX7
 refine jHl (fun i hi => ?_) ?_ (by omega)
 ·unfold jXt
  rw [jQq, dT (by omega), cond_true, jVw hi, bS, hf, bS, jDb (by omega)]
 ·unfold jXt
  rw [jQq, dF (by omega), cond_false]
theorem jP8 {N : Nat} {p : GPermitPlan} {s : Str} (hl : p.Spaces.length < 1000000) (hN : 1000000 ≤ N) : jUc N p s = some (ixI (isS s) p.Spaces) := by
 unfold jUc
 refine jHl (fun i hi => ?_) ?_ (by omega)
 ·unfold jU4
  rw [jQq, dT (by omega), cond_true, jVw hi, bS, jUs, jDb (by omega)]; rfl
 ·unfold jU4
  rw [jQq, dF (by omega), cond_false]
theorem jNc {N : Nat} {p : GPermitPlan} {s : Str} (hl : p.Permits.length < 1000000) (hN : 1000000 ≤ N) : jK5 N p s = some (ixI (isP s) p.Permits) := by
 unfold jK5
 refine jHl (fun i hi => ?_) ?_ (by omega)
 ·unfold jUv
  rw [jQq, dT (by omega), cond_true, jVw hi, bS, jUs, jDb (by omega)]; rfl
 ·unfold jUv
  rw [jQq, dF (by omega), cond_false]
def jFj {α : Type} (z : α) (g : α → Bool) (l : List α) : α × Bool := match l.find? g with | some y => (y, true) | none => (z, false)
theorem jS7 {α : Type} {g : α → Bool} : ∀ {l : List α}, (l.findIdx g < l.length ∧ ∃ h : l.findIdx g < l.length, l.find? g = some l[l.findIdx g]) ∨ (¬ l.findIdx g < l.length ∧ l.find? g = none) := by
 intro l
 by_cases h : l.findIdx g < l.length
 ·refine .inl ⟨h, h, ?_⟩
  exact (List.find?_eq_getElem?_findIdx ..).trans (List.getElem?_eq_getElem h)
 ·refine .inr ⟨h, ?_⟩
  rw [List.find?_eq_getElem?_findIdx, List.getElem?_eq_none (by omega)]
theorem jH9 {N : Nat} {p : GPermitPlan} {s : Str} (hl : p.Spaces.length < 1000000) (hN : 1000000 ≤ N) : jXl N p s = some (jFj ⟨[], false, []⟩ (isS s) p.Spaces) := by
 unfold jXl
 rw [qWq (g := isS s) (fun y => by unfold jY8; rw [jUs]; rfl) hl hN, bS, jQq]
 unfold jFj
 rcases jS7 (g := isS s) (l := p.Spaces) with ⟨_, h, h2⟩ | ⟨h, h2⟩
 ·rw [h2, jFt h, dF (by omega), cond_false, jVw h]; rfl
 ·rw [h2, jMq h]; rfl
theorem jB6 {N : Nat} {p : GPermitPlan} {s : Str} (hl : p.Permits.length < 1000000) (hN : 1000000 ≤ N) : jVg N p s = some (jFj ⟨[], 0, [], 0, 0, []⟩ (isP s) p.Permits) := by
 unfold jVg
 rw [qWz (g := isP s) (fun y => by unfold jYp; rw [jUs]; rfl) hl hN, bS, jQq]
 unfold jFj
 rcases jS7 (g := isP s) (l := p.Permits) with ⟨_, h, h2⟩ | ⟨h, h2⟩
 ·rw [h2, jFt h, dF (by omega), cond_false, jVw h]; rfl
 ·rw [h2, jMq h]; rfl
theorem jLg {α : Type} {z : α} {g : α → Bool} {l : List α} : (jFj z g l).2 = l.any g := by
 unfold jFj
 cases h : l.find? g with
 | none => simp only []; rw [eq_comm, Bool.eq_false_iff]; intro hx; rw [List.any_eq_true] at hx; obtain ⟨x, hx, hg⟩ := hx; exact absurd hg (by simpa using List.find?_eq_none.1 h x hx)
 | some y => simp only []; rw [eq_comm, List.any_eq_true]; exact ⟨y, List.mem_of_find?_eq_some h, List.find?_some h⟩
end Go.KB
namespace Go.KB
set_option linter.unusedVariables false
def jC2 (a b : Int) : Int := if a = 0 then b else a
def jD9 (k : Int) : Bool := decide (0 ≤ k) && decide (k ≤ 5)
def nmS (p : GPermitPlan) (i : Nat) : Str := p.Spaces[i]!.Name
def nmP (p : GPermitPlan) (i : Nat) : Str := p.Permits[i]!.Name
def jM3 (p : GPermitPlan) (s : Str) : Bool := p.Spaces.any (isS s)
def jUm (p : GPermitPlan) (s : Str) : Bool := p.Permits.any (isP s)
def atP (p : GPermitPlan) (s : Str) : jJu := (jFj ⟨[], 0, [], 0, 0, []⟩ (isP s) p.Permits).1
def atS (p : GPermitPlan) (s : Str) : jJ5 := (jFj ⟨[], false, []⟩ (isS s) p.Spaces).1
def eSp (p : GPermitPlan) (i : Nat) : Int := if jWb (nmS p i) = false then 4 else if dup (nmS p) i (nmS p i) = true then 5 else if 30 < p.Spaces[i]!.Next.length then 8 else 0
def eNx (p : GPermitPlan) (y : jJ5) (j : Nat) : Int := if jM3 p y.Next[j]! = false then 6 else if y.Next[j]! = y.Name then 3 else 0
def qZs (p : GPermitPlan) (i : Nat) : Int := jXx (eNx p p.Spaces[i]!) p.Spaces[i]!.Next.length 0
def eEx (p : GPermitPlan) (i : Nat) : Int := if jD9 p.Exclusions[i]!.A = false ∨ jD9 p.Exclusions[i]!.B = false ∨ p.Exclusions[i]!.Reach < 0 ∨ 2 < p.Exclusions[i]!.Reach then 2 else 0
def ePm (p : GPermitPlan) (i : Nat) : Int := if jWb (nmP p i) = false then 4 else if dup (nmP p) i (nmP p i) = true then 5 else
 if jD9 p.Permits[i]!.Kind = false ∨ p.Permits[i]!.From < 0 ∨ p.Permits[i]!.To ≤ p.Permits[i]!.From ∨ 1000000 < p.Permits[i]!.To then 2 else if jM3 p p.Permits[i]!.Space = false then 6 else if 10 < p.Permits[i]!.Locks.length then 8 else 0
def eLk (p : GPermitPlan) (y : jJu) (j : Nat) : Int := if jUm p y.Locks[j]! = false then 6 else if (atP p y.Locks[j]!).Kind ≠ 5 ∨ y.Kind = 5 then 3 else 0
def qKh (p : GPermitPlan) (i : Nat) : Int := jXx (eLk p p.Permits[i]!) p.Permits[i]!.Locks.length 0
def jWs (p : GPermitPlan) : Int := if 30 < p.Spaces.length ∨ 30 < p.Exclusions.length ∨ 20 < p.Permits.length then 8 else if p.GasMinutes < 1 ∨ 10000 < p.GasMinutes then 2 else
 jC2 (jC2 (jXx (eSp p) p.Spaces.length 0) (jXx (qZs p) p.Spaces.length 0)) (jC2 (jXx (eEx p) p.Exclusions.length 0) (jC2 (jXx (ePm p) p.Permits.length 0) (jXx (qKh p) p.Permits.length 0)))
structure SmP (p : GPermitPlan) : Prop where
 s : p.Spaces.length < 1000
 x : p.Exclusions.length < 1000
 m : p.Permits.length < 1000
 n : ∀ y ∈ p.Spaces, y.Next.length < 1000
 l : ∀ y ∈ p.Permits, y.Locks.length < 1000
theorem jFh {α : Type} [Inhabited α] {l : List α} {i : Nat} (h : i < l.length) : l[i]! ∈ l := by rw [jTr h]; exact List.getElem_mem h
theorem jGq {A : Type} {fin : A} {E : Int} {K : A → Option Int} : ((some (jHc (Sum.inl fin) (fun e => Sum.inr e) E) : Option (A ⊕ Int)).bind fun o => Sum.elim (fun l => K l) (fun r => some r) o) = if E = 0 then K fin else some E := by
 unfold jHc
 by_cases h : E = 0
 ·rw [if_pos h, if_pos h]; rfl
 ·rw [if_neg h, if_neg h]; rfl
theorem qZm {α : Type} [Inhabited α] {nm : α → Str} {x : Str} {l : List α} {i : Nat} (hi : i ≤ l.length) : dup (fun j => nm l[j]!) i x = (decide (0 ≤ ixI (fun y => decide (nm y = x)) l) && decide (ixI (fun y => decide (nm y = x)) l < (i : Int))) := by
 rw [Bool.eq_iff_iff, jA8, Bool.and_eq_true, decide_eq_true_eq, decide_eq_true_eq]
 constructor
 ·rintro ⟨j, hj, hx⟩
  have hjl : j < l.length := by omega
  rw [jTr hjl] at hx
  have hle : l.findIdx (fun y => decide (nm y = x)) ≤ j := by
   rcases Nat.lt_or_ge j (l.findIdx (fun y => decide (nm y = x))) with h | h
   ·exact absurd (List.not_of_lt_findIdx h) (by simp [hx])
   ·exact h
  rw [jFt (by omega)]
  omega
 ·rintro ⟨h1, h2⟩
  by_cases h : l.findIdx (fun y => decide (nm y = x)) < l.length
  ·rw [jFt h] at h2
   refine ⟨l.findIdx (fun y => decide (nm y = x)), by omega, ?_⟩
   show nm l[l.findIdx (fun y => decide (nm y = x))]! = x
   rw [jTr h]
   have := List.findIdx_getElem (xs := l) (p := fun y => decide (nm y = x)) (w := h)
   simpa using this
  ·rw [jMq h] at h1; omega
theorem qUu {α : Type} [Inhabited α] {nm : α → Str} {x : Str} {l : List α} : dup (fun j => nm l[j]!) l.length x = l.any (fun y => decide (nm y = x)) := by
 rw [qZm (Nat.le_refl _)]
 have := jMs (g := fun y => decide (nm y = x)) (l := l)
 by_cases h : l.findIdx (fun y => decide (nm y = x)) < l.length
 ·rw [jFt h] at this ⊢
  rw [dF (by omega)] at this
  rw [dT (by omega), dT (by omega)]
  cases hx : l.any (fun y => decide (nm y = x)) with
  | true => rfl
  | false => rw [hx] at this; cases this
 ·rw [jMq h] at this ⊢
  cases hx : l.any (fun y => decide (nm y = x)) with
  | false => rfl
  | true => rw [hx] at this; cases this
theorem qZl {N : Nat} {k : Int} : jG3 N k = some (jD9 k) := rfl
theorem qYx {N : Nat} {k : Int} : jHg N k = some (jD9 k) := rfl
section
variable {N : Nat} {p : GPermitPlan} (hp : SmP p) (hN : 1000000 ≤ N)
include hp hN
theorem cs3 : jXh (jV9 N p) N (([] : List (Str × Bool)), 0) = some (jHc (.inl (seen (nmS p) p.Spaces.length)) (fun e => .inr e) (jXx (eSp p) p.Spaces.length 0)) := by
 have hs := hp.s
 refine jC6 (fun i => (seen (nmS p) i, (i : Int))) (fun i hi _ => ?_) (fun _ => ?_) (by omega)
 ·unfold jV9 eSp
  simp only []
  rw [jQq, dT (by omega), cond_true, jAx hi, bS, jFb (by omega), bS, jPg, jDb (by omega), jGr]
  show (bif !jWb (nmS p i) then _ else bif dup (nmS p) i (nmS p i) then _ else _) = _
  cases jWb (nmS p i) with
  | false => rfl
  | true =>
   cases dup (nmS p) i (nmS p i) with
   | true => rfl
   | false =>
    by_cases h : 30 < p.Spaces[i]!.Next.length
    ·rw [dT (show (30 : Int) < (p.Spaces[i]!.Next.length : Int) by omega), if_pos h]; rfl
    ·rw [dF (show ¬ (30 : Int) < (p.Spaces[i]!.Next.length : Int) by omega), if_neg h]; rfl
 ·unfold jV9
  simp only []
  rw [jQq, dF (by omega), cond_false]
theorem cs1 {y : jJ5} (hy : y ∈ p.Spaces) : jXh (jV7 N (seen (nmS p) p.Spaces.length) y) N 0 = some (jHc (.inl ()) (fun e => .inr e) (jXx (eNx p y) y.Next.length 0)) := by
 have hl := hp.n y hy
 refine jHt (fun i hi _ => ?_) (fun _ => ?_) (by omega)
 ·unfold jV7 eNx
  rw [jQq, dT (by omega), cond_true, jAx hi, bS, jPg, show dup (nmS p) p.Spaces.length y.Next[i]! = jM3 p y.Next[i]! from qUu, jDb (by omega), jUs]
  cases jM3 p y.Next[i]! with
  | false => rfl
  | true =>
   by_cases h : y.Next[i]! = y.Name
   ·rw [dT h, if_pos h]; rfl
   ·rw [dF h, if_neg h]; rfl
 ·unfold jV7
  rw [jQq, dF (by omega), cond_false]
theorem cs2 : jXh (jV8 N p (seen (nmS p) p.Spaces.length)) N 0 = some (jHc (.inl ()) (fun e => .inr e) (jXx (qZs p) p.Spaces.length 0)) := by
 have hs := hp.s
 refine jHt (fun i hi _ => ?_) (fun _ => ?_) (by omega)
 ·unfold jV8
  rw [jQq, dT (by omega), cond_true, jAx hi, bS, cs1 hp hN (jFh hi), jDb (by omega), bS]
  show Sum.elim _ _ (jHc _ _ (qZs p i)) = _
  unfold jHc
  by_cases h : qZs p i = 0
  ·rw [if_pos h, if_pos h]; rfl
  ·rw [if_neg h, if_neg h]; rfl
 ·unfold jV8
  rw [jQq, dF (by omega), cond_false]
theorem jR5 : jKw N p = some (jC2 (jXx (eSp p) p.Spaces.length 0) (jXx (qZs p) p.Spaces.length 0)) := by
 unfold jKw
 rw [cs3 hp hN, jGq, cs2 hp hN, jGq]
 unfold jC2
 split
 ·split
  ·rename_i h; rw [h]
  ·rfl
 ·rfl
theorem rcs3 : jXh (jWw N p) N 0 = some (jHc (.inl ()) (fun e => .inr e) (jXx (eSp p) p.Spaces.length 0)) := by
 have hs := hp.s
 refine jHt (fun i hi _ => ?_) (fun _ => ?_) (by omega)
 ·unfold jWw eSp
  rw [jQq, dT (by omega), cond_true, jAx hi, bS, jTa (by omega), bS]
  have hd : jGj N p (i : Int) (nmS p i) = some (dup (nmS p) i (nmS p i)) := by
   unfold jGj
   rw [jP8 (by omega) hN, bS, jDw, jQq]
   exact congrArg some (qZm (nm := jJ5.Name) (x := nmS p i) (l := p.Spaces) (Nat.le_of_lt hi)).symm
  rw [bS, show jGj N p (i : Int) p.Spaces[i]!.Name = _ from hd, bS, bS, jDb (by omega), jGr]
  show (bif !jWb (nmS p i) then _ else bif dup (nmS p) i (nmS p i) then _ else _) = _
  cases jWb (nmS p i) with
  | false => rfl
  | true =>
   cases dup (nmS p) i (nmS p i) with
   | true => rfl
   | false =>
    by_cases h : 30 < p.Spaces[i]!.Next.length
    ·rw [dT (show (30 : Int) < (p.Spaces[i]!.Next.length : Int) by omega), if_pos h]; rfl
    ·rw [dF (show ¬ (30 : Int) < (p.Spaces[i]!.Next.length : Int) by omega), if_neg h]; rfl
 ·unfold jWw
  rw [jQq, dF (by omega), cond_false]
theorem rcs1 {i : Nat} (hi : i < p.Spaces.length) : jXh (jWk N p (i : Int)) N 0 = some (jHc (.inl ()) (fun e => .inr e) (qZs p i)) := by
 have hl := hp.n _ (jFh hi)
 have hs := hp.s
 refine jHt (fun j hj _ => ?_) (fun _ => ?_) (by omega)
 ·unfold jWk eNx
  rw [jAx hi, bS, jQq, dT (by omega), cond_true, bS, jAx hj, bS, jP8 (by omega) hN, bS, jQq, jMs, bS, jAx hj, bS, bS, jDb (by omega), jUs]
  show (bif !jM3 p _ then _ else _) = _
  cases jM3 p p.Spaces[i]!.Next[j]! with
  | false => rfl
  | true =>
   by_cases h : p.Spaces[i]!.Next[j]! = p.Spaces[i]!.Name
   ·rw [dT h, if_pos h]; rfl
   ·rw [dF h, if_neg h]; rfl
 ·unfold jWk
  rw [jAx hi, bS, jQq, dF (by omega), cond_false]
theorem rcs2 : jXh (jWy N p) N 0 = some (jHc (.inl ()) (fun e => .inr e) (jXx (qZs p) p.Spaces.length 0)) := by
 have hs := hp.s
 refine jHt (fun i hi _ => ?_) (fun _ => ?_) (by omega)
 ·unfold jWy
  rw [jQq, dT (by omega), cond_true, rcs1 hp hN hi, jDb (by omega), bS]
  unfold jHc
  by_cases h : qZs p i = 0
  ·rw [if_pos h, if_pos h]; rfl
  ·rw [if_neg h, if_neg h]; rfl
 ·unfold jWy
  rw [jQq, dF (by omega), cond_false]
theorem jRn : jKn N p = some (jC2 (jXx (eSp p) p.Spaces.length 0) (jXx (qZs p) p.Spaces.length 0)) := by
 unfold jKn
 rw [rcs3 hp hN, jGq, rcs2 hp hN, jGq]
 unfold jC2
 split
 ·split
  ·rename_i h; rw [h]
  ·rfl
 ·rfl
omit hp hN in
theorem ex_eq {a b : Bool} {r : Int} : ((((!a) || (!(bif !(!a) then b else false))) || (jJy .lss r 0)) || (jJy .gtr r 2)) = decide (a = false ∨ b = false ∨ r < 0 ∨ 2 < r) := by
 rw [Bool.eq_iff_iff, jQq, jGr]
 cases a <;> cases b <;> simp
omit hN in
theorem exL (hN2 : p.Exclusions.length < N) : jXh (jWn N p) N 0 = some (jHc (.inl ()) (fun e => .inr e) (jXx (eEx p) p.Exclusions.length 0)) := by
 have hs := hp.x
 refine jHt (fun i hi _ => ?_) (fun _ => ?_) hN2
 ·unfold jWn eEx
  simp only [qZl]
  rw [jQq, dT (by omega), cond_true, jAx hi, bS, bS, jS9, bS, jDb (by omega), ex_eq]
  by_cases h : jD9 p.Exclusions[i]!.A = false ∨ jD9 p.Exclusions[i]!.B = false ∨ p.Exclusions[i]!.Reach < 0 ∨ 2 < p.Exclusions[i]!.Reach
  ·rw [dT h, if_pos h]; rfl
  ·rw [dF h, if_neg h]; rfl
 ·unfold jWn
  rw [jQq, dF (by omega), cond_false]
omit hN in
theorem rexL (hN2 : p.Exclusions.length < N) : jXh (jUj N p) N 0 = some (jHc (.inl ()) (fun e => .inr e) (jXx (eEx p) p.Exclusions.length 0)) := exL hp hN2
omit hp hN in
theorem rg_eq {a : Bool} {x y : Int} : ((((!a) || (jJy .lss x 0)) || (jJy .geq x y)) || (jJy .gtr y 1000000)) = decide (a = false ∨ x < 0 ∨ y ≤ x ∨ 1000000 < y) := by
 rw [Bool.eq_iff_iff, jQq, jGr, jDw]
 cases a <;> simp [or_assoc]
theorem pm3 : jXh (jVe N p) N (([] : List (Str × Bool)), 0) = some (jHc (.inl ()) (fun e => .inr e) (jXx (ePm p) p.Permits.length 0)) := by
 have hs := hp.s
 have hm := hp.m
 refine jC6 (fun i => (seen (nmP p) i, (i : Int))) (fun i hi _ => ?_) (fun _ => ?_) (by omega)
 ·unfold jVe ePm
  simp only []
  rw [jQq, dT (by omega), cond_true, jAx hi, bS, jH9 (by omega) hN, bS, jFb (by omega), bS, jPg, jDb (by omega), qZl, bS, rg_eq, jLg, jGr]
  show (bif !jWb (nmP p i) then _ else bif dup (nmP p) i (nmP p i) then _ else bif _ then _ else bif !jM3 p p.Permits[i]!.Space then _ else _) = _
  cases jWb (nmP p i) with
  | false => rfl
  | true =>
   cases dup (nmP p) i (nmP p i) with
   | true => rfl
   | false =>
    by_cases h : jD9 p.Permits[i]!.Kind = false ∨ p.Permits[i]!.From < 0 ∨ p.Permits[i]!.To ≤ p.Permits[i]!.From ∨ 1000000 < p.Permits[i]!.To
    ·rw [dT h, if_pos h]; rfl
    ·rw [dF h, if_neg h]
     cases jM3 p p.Permits[i]!.Space with
     | false => rfl
     | true =>
      by_cases h : 10 < p.Permits[i]!.Locks.length
      ·rw [dT (show (10 : Int) < (p.Permits[i]!.Locks.length : Int) by omega), if_pos h]; rfl
      ·rw [dF (show ¬ (10 : Int) < (p.Permits[i]!.Locks.length : Int) by omega), if_neg h]; rfl
 ·unfold jVe
  simp only []
  rw [jQq, dF (by omega), cond_false]
theorem rpm3 : jXh (jYu N p) N 0 = some (jHc (.inl ()) (fun e => .inr e) (jXx (ePm p) p.Permits.length 0)) := by
 have hs := hp.s
 have hm := hp.m
 refine jHt (fun i hi _ => ?_) (fun _ => ?_) (by omega)
 ·unfold jYu ePm
  have hd : jJy .lss (ixI (isP p.Permits[i]!.Name) p.Permits) (i : Int) = dup (nmP p) i (nmP p i) := by
   have h1 := qZm (nm := jJu.Name) (x := nmP p i) (l := p.Permits) (Nat.le_of_lt hi)
   have h2 : (0 : Int) ≤ ixI (isP p.Permits[i]!.Name) p.Permits := by
    have := jMs (g := isP p.Permits[i]!.Name) (l := p.Permits)
    have h3 : p.Permits.any (isP p.Permits[i]!.Name) = true := List.any_eq_true.2 ⟨_, jFh hi, by simp [isP]⟩
    rw [h3] at this
    simpa using this
   rw [jQq]
   show _ = dup (fun j => p.Permits[j]!.Name) i (nmP p i)
   rw [h1]
   show _ = (decide ((0 : Int) ≤ ixI (isP p.Permits[i]!.Name) p.Permits) && decide (ixI (isP p.Permits[i]!.Name) p.Permits < (i : Int)))
   rw [dT h2, Bool.true_and]
  rw [jQq, dT (by omega), cond_true, jAx hi, bS, jTa (by omega), bS, jNc (by omega) hN, bS, hd, qYx, bS, rg_eq, jP8 (by omega) hN, bS, jQq, jMs, jGr, jDb (by omega)]
  show (bif !jWb (nmP p i) then _ else bif dup (nmP p) i (nmP p i) then _ else bif _ then _ else bif !jM3 p p.Permits[i]!.Space then _ else _) = _
  cases jWb (nmP p i) with
  | false => rfl
  | true =>
   cases dup (nmP p) i (nmP p i) with
   | true => rfl
   | false =>
    by_cases h : jD9 p.Permits[i]!.Kind = false ∨ p.Permits[i]!.From < 0 ∨ p.Permits[i]!.To ≤ p.Permits[i]!.From ∨ 1000000 < p.Permits[i]!.To
    ·rw [dT h, if_pos h]; rfl
    ·rw [dF h, if_neg h]
     cases jM3 p p.Permits[i]!.Space with
     | false => rfl
     | true =>
      by_cases h : 10 < p.Permits[i]!.Locks.length
      ·rw [dT (show (10 : Int) < (p.Permits[i]!.Locks.length : Int) by omega), if_pos h]; rfl
      ·rw [dF (show ¬ (10 : Int) < (p.Permits[i]!.Locks.length : Int) by omega), if_neg h]; rfl
 ·unfold jYu
  rw [jQq, dF (by omega), cond_false]
omit hp hN in
theorem lk_eq {a b : Int} : ((jJy .neq a 5) || (jJy .eql b 5)) = decide (a ≠ 5 ∨ b = 5) := by
 rw [Bool.eq_iff_iff, jH2, jUt]; simp
theorem lk1 {y : jJu} (hy : y ∈ p.Permits) : jXh (jVc N p y) N 0 = some (jHc (.inl ()) (fun e => .inr e) (jXx (eLk p y) y.Locks.length 0)) := by
 have hm := hp.m
 have hl := hp.l y hy
 refine jHt (fun i hi _ => ?_) (fun _ => ?_) (by omega)
 ·unfold jVc eLk
  rw [jQq, dT (by omega), cond_true, jAx hi, bS, jB6 (by omega) hN, bS, jLg, lk_eq, jDb (by omega)]
  show (bif !jUm p y.Locks[i]! then _ else bif decide ((atP p y.Locks[i]!).Kind ≠ 5 ∨ y.Kind = 5) then _ else _) = _
  cases jUm p y.Locks[i]! with
  | false => rfl
  | true =>
   by_cases h : (atP p y.Locks[i]!).Kind ≠ 5 ∨ y.Kind = 5
   ·rw [dT h, if_pos h]; rfl
   ·rw [dF h, if_neg h]; rfl
 ·unfold jVc
  rw [jQq, dF (by omega), cond_false]
theorem lk2 : jXh (jVs N p) N 0 = some (jHc (.inl ()) (fun e => .inr e) (jXx (qKh p) p.Permits.length 0)) := by
 have hm := hp.m
 refine jHt (fun i hi _ => ?_) (fun _ => ?_) (by omega)
 ·unfold jVs
  rw [jQq, dT (by omega), cond_true, jAx hi, bS, lk1 hp hN (jFh hi), jDb (by omega), bS]
  show Sum.elim _ _ (jHc _ _ (qKh p i)) = _
  unfold jHc
  by_cases h : qKh p i = 0
  ·rw [if_pos h, if_pos h]; rfl
  ·rw [if_neg h, if_neg h]; rfl
 ·unfold jVs
  rw [jQq, dF (by omega), cond_false]
theorem rlk1 {y : jJu} (hy : y ∈ p.Permits) : jXh (jYk N p y) N 0 = some (jHc (.inl ()) (fun e => .inr e) (jXx (eLk p y) y.Locks.length 0)) := by
 have hm := hp.m
 have hl := hp.l y hy
 refine jHt (fun i hi _ => ?_) (fun _ => ?_) (by omega)
 ·unfold jYk eLk
  rw [jQq, dT (by omega), cond_true, jAx hi, bS, jNc (by omega) hN, bS, jQq, jMs, jDb (by omega)]
  show (bif !jUm p y.Locks[i]! then _ else _) = _
  cases hx : jUm p y.Locks[i]! with
  | false => rfl
  | true =>
   rw [Bool.not_true, cond_false]
   have hg : idx p.Permits (ixI (isP y.Locks[i]!) p.Permits) = some (atP p y.Locks[i]!) := by
    unfold atP jFj
    rcases jS7 (g := isP y.Locks[i]!) (l := p.Permits) with ⟨_, h, h2⟩ | ⟨h, h2⟩
    ·rw [h2, jFt h, jVw h]
    ·have := jMs (g := isP y.Locks[i]!) (l := p.Permits)
     rw [show p.Permits.any (isP y.Locks[i]!) = true from hx, jMq h] at this
     cases this
   rw [hg, bS, lk_eq]
   by_cases h : (atP p y.Locks[i]!).Kind ≠ 5 ∨ y.Kind = 5
   ·rw [dT h, if_pos h]; rfl
   ·rw [dF h, if_neg h]; rfl
 ·unfold jYk
  rw [jQq, dF (by omega), cond_false]
theorem rlk2 : jXh (jYv N p) N 0 = some (jHc (.inl ()) (fun e => .inr e) (jXx (qKh p) p.Permits.length 0)) := by
 have hm := hp.m
 refine jHt (fun i hi _ => ?_) (fun _ => ?_) (by omega)
 ·unfold jYv
  rw [jQq, dT (by omega), cond_true, jAx hi, bS, rlk1 hp hN (jFh hi), jDb (by omega), bS]
  show Sum.elim _ _ (jHc _ _ (qKh p i)) = _
  unfold jHc
  by_cases h : qKh p i = 0
  ·rw [if_pos h, if_pos h]; rfl
  ·rw [if_neg h, if_neg h]; rfl
 ·unfold jYv
  rw [jQq, dF (by omega), cond_false]
theorem jRt : jY3 N p = some (jC2 (jXx (ePm p) p.Permits.length 0) (jXx (qKh p) p.Permits.length 0)) := by
 unfold jY3
 rw [pm3 hp hN, jGq, lk2 hp hN, jGq]
 unfold jC2
 split
 ·split
  ·rename_i h; rw [h]
  ·rfl
 ·rfl
omit hp hN in
theorem qKu : (((jJy .gtr (List.length p.Spaces : Int) 30) || (jJy .gtr (List.length p.Exclusions : Int) 30)) || (jJy .gtr (List.length p.Permits : Int) 20)) = decide (30 < p.Spaces.length ∨ 30 < p.Exclusions.length ∨ 20 < p.Permits.length) := by
 rw [Bool.eq_iff_iff]; simp only [jGr, Bool.or_eq_true, decide_eq_true_eq]; omega
omit hp hN in
theorem qKf {g : Int} : ((jJy .lss g 1) || (jJy .gtr g 10000)) = decide (g < 1 ∨ 10000 < g) := by
 rw [Bool.eq_iff_iff]; simp
theorem jN2 : jW3 N p = some (jWs p) := by
  have hx := hp.x
  unfold jW3 jWs
  rw [qKu, qKf]
  by_cases h : 30 < p.Spaces.length ∨ 30 < p.Exclusions.length ∨ 20 < p.Permits.length
  · rw [dT h, if_pos h]; rfl
  · rw [dF h, if_neg h, cond_false]
    by_cases h : p.GasMinutes < 1 ∨ 10000 < p.GasMinutes
    · rw [dT h, if_pos h]; rfl
    · rw [dF h, if_neg h, cond_false, jR5 hp hN, bS, jH2]
      generalize jC2 (jXx (eSp p) p.Spaces.length 0) (jXx (qZs p) p.Spaces.length 0) = E
      unfold jC2
      by_cases h : E = 0
      · rw [dT h, if_pos h, Bool.not_true, cond_false, exL hp (by omega), jGq, jRt hp hN]
        unfold jC2
        split
        · rfl
        · rfl
      · rw [dF h, if_neg h]; rfl
theorem jS3 : jUb N p = some (jWs p) := by
  have hx := hp.x
  unfold jUb jWs
  rw [qKu, qKf]
  by_cases h : 30 < p.Spaces.length ∨ 30 < p.Exclusions.length ∨ 20 < p.Permits.length
  · rw [dT h, if_pos h]; rfl
  · rw [dF h, if_neg h, cond_false]
    by_cases h : p.GasMinutes < 1 ∨ 10000 < p.GasMinutes
    · rw [dT h, if_pos h]; rfl
    · rw [dF h, if_neg h, cond_false, jRn hp hN, bS, jH2]
      generalize jC2 (jXx (eSp p) p.Spaces.length 0) (jXx (qZs p) p.Spaces.length 0) = E
      unfold jC2
      by_cases h : E = 0
      · rw [dT h, if_pos h, Bool.not_true, cond_false, rexL hp (by omega), jGq, rpm3 hp hN, jGq, rlk2 hp hN, jGq]
        split
        · split
          · split
            · rename_i h1 h2 h3; rw [h3]
            · rfl
          · rfl
        · rfl
      · rw [dF h, if_neg h]; rfl
end
end Go.KB
namespace Go.KB
set_option linter.unusedVariables false
theorem qYu {N : Nat} (p : GPermitPlan) (hN : 1000000 ≤ N) : jG1 N p = some true ∨ (jG1 N p = some false ∧ SmP p ∧ p.Spaces.length ≤ 40 ∧ p.Exclusions.length ≤ 40 ∧ p.Permits.length ≤ 30 ∧ (∀ y ∈ p.Spaces, y.Next.length ≤ 40 ∧ y.Name.length ≤ 40) ∧ ∀ y ∈ p.Permits, y.Locks.length ≤ 20 ∧ y.Name.length ≤ 40) := by
  unfold jG1
  have hb : (((jJy .gtr (List.length p.Spaces : Int) 40) || (jJy .gtr (List.length p.Exclusions : Int) 40)) || (jJy .gtr (List.length p.Permits : Int) 30)) = decide (40 < p.Spaces.length ∨ 40 < p.Exclusions.length ∨ 30 < p.Permits.length) := by
    rw [Bool.eq_iff_iff]; simp only [jGr, Bool.or_eq_true, decide_eq_true_eq]; omega
  rw [hb]
  by_cases h : 40 < p.Spaces.length ∨ 40 < p.Exclusions.length ∨ 30 < p.Permits.length
  · rw [dT h]; exact .inl rfl
  rw [dF h, cond_false]
  have hs : ∀ (i : Nat) (hi : i < p.Spaces.length), jYb N p (i : Int) = bif (decide (40 < p.Spaces[i].Next.length) || decide (40 < p.Spaces[i].Name.length)) then some (.inr (.inr true)) else some (.inl ((i + 1 : Nat) : Int)) := by
    intro i hi
    unfold jYb
    rw [jQq, dT (by omega), cond_true, jVw hi, bS, jDb (by omega)]
    simp only [jGr]
    by_cases h1 : 40 < p.Spaces[i].Next.length
    · rw [dT h1, dT (show (40 : Int) < (p.Spaces[i].Next.length : Int) by omega)]; rfl
    · rw [dF h1, dF (show ¬ (40 : Int) < (p.Spaces[i].Next.length : Int) by omega), Bool.not_false, cond_true, bS, Bool.false_or, Bool.false_or]
      by_cases h2 : 40 < p.Spaces[i].Name.length
      · rw [dT h2, dT (show (40 : Int) < (p.Spaces[i].Name.length : Int) by omega)]
      · rw [dF h2, dF (show ¬ (40 : Int) < (p.Spaces[i].Name.length : Int) by omega)]
  have hs2 : jYb N p (p.Spaces.length : Int) = some (.inr (.inl ())) := by
    unfold jYb
    rw [jQq, dF (by omega), cond_false]
  have hm : ∀ (i : Nat) (hi : i < p.Permits.length), jYg N p (i : Int) = bif (decide (20 < p.Permits[i].Locks.length) || decide (40 < p.Permits[i].Name.length)) then some (.inr (.inr true)) else some (.inl ((i + 1 : Nat) : Int)) := by
    intro i hi
    unfold jYg
    rw [jQq, dT (by omega), cond_true, jVw hi, bS, jDb (by omega)]
    simp only [jGr]
    by_cases h1 : 20 < p.Permits[i].Locks.length
    · rw [dT h1, dT (show (20 : Int) < (p.Permits[i].Locks.length : Int) by omega)]; rfl
    · rw [dF h1, dF (show ¬ (20 : Int) < (p.Permits[i].Locks.length : Int) by omega), Bool.not_false, cond_true, bS, Bool.false_or, Bool.false_or]
      by_cases h2 : 40 < p.Permits[i].Name.length
      · rw [dT h2, dT (show (40 : Int) < (p.Permits[i].Name.length : Int) by omega)]
      · rw [dF h2, dF (show ¬ (40 : Int) < (p.Permits[i].Name.length : Int) by omega)]
  have hm2 : jYg N p (p.Permits.length : Int) = some (.inr (.inl ())) := by
    unfold jYg
    rw [jQq, dF (by omega), cond_false]
  have e1 := jSb (N := N) (fun i => bif (p.Spaces.drop i).any (fun y => decide (40 < y.Next.length) || decide (40 < y.Name.length)) then .inr true else .inl ()) (f := jYb N p) (n := p.Spaces.length) (fun i hi => by
    rw [hs i hi]
    simp only [drop_at hi, List.any_cons]
    cases (decide (40 < p.Spaces[i].Next.length) || decide (40 < p.Spaces[i].Name.length))
    · exact .inl ⟨rfl, by simp⟩
    · exact .inr rfl) (by rw [hs2]; simp) (by omega)
  have e2 := jSb (N := N) (fun i => bif (p.Permits.drop i).any (fun y => decide (20 < y.Locks.length) || decide (40 < y.Name.length)) then .inr true else .inl ()) (f := jYg N p) (n := p.Permits.length) (fun i hi => by
    rw [hm i hi]
    simp only [drop_at hi, List.any_cons]
    cases (decide (20 < p.Permits[i].Locks.length) || decide (40 < p.Permits[i].Name.length))
    · exact .inl ⟨rfl, by simp⟩
    · exact .inr rfl) (by rw [hm2]; simp) (by omega)
  rw [e1, e2]
  simp only [List.drop_zero, bS]
  cases ha : p.Spaces.any (fun y => decide (40 < y.Next.length) || decide (40 < y.Name.length)) with
  | true => exact .inl rfl
  | false =>
    cases hc : p.Permits.any (fun y => decide (20 < y.Locks.length) || decide (40 < y.Name.length)) with
    | true => exact .inl rfl
    | false =>
      have ha' : ∀ y ∈ p.Spaces, y.Next.length ≤ 40 ∧ y.Name.length ≤ 40 := fun y hy => by
        have := List.any_eq_false.1 ha y hy
        simp only [Bool.or_eq_true, decide_eq_true_eq, not_or] at this
        omega
      have hc' : ∀ y ∈ p.Permits, y.Locks.length ≤ 20 ∧ y.Name.length ≤ 40 := fun y hy => by
        have := List.any_eq_false.1 hc y hy
        simp only [Bool.or_eq_true, decide_eq_true_eq, not_or] at this
        omega
      exact .inr ⟨rfl, ⟨by omega, by omega, by omega, fun y hy => by have := (ha' y hy).1; omega, fun y hy => by have := (hc' y hy).1; omega⟩, by omega, by omega, by omega, ha', hc'⟩
end Go.KB
