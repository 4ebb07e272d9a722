/- Plain laws: loops, comparisons, indices. Plain laws: limits and names. Plain laws of the exact package's natural numbers. Plain laws of the exact package: words, greatest common divisors, division by one limb. Plain laws of the exact package: comparison, division by one limb, fractions of small numbers. Plain laws: digits of lists of limbs; arithmetic of machine integers within their limits. Plain laws: loops that look for the first error, that make a list, that change a list in its place. No condition. -/
import Derived.Test.YtcoggcadlinmdaaGreatDoorKZb
import Derived.Laws.Bits64
import Derived.Laws.BitsAllLaws
import Derived.Test.YtcoggcadlinmdaaGreatDoorGPure
namespace Go.KB
theorem bS {α β : Type} {a : α} {f : α → Option β} : (some a).bind f = f a := rfl
theorem cnT {α : Type} {a b : α} : (bif true then a else b) = a := rfl
theorem cnF {α : Type} {a b : α} : (bif false then a else b) = b := rfl
variable {S O α β : Type}
theorem qKn {f : S → Option (S ⊕ O)} (I : S → Prop) (μ : S → Nat) (post : O → Prop)
    (h : ∀ s, I s → (∃ s', f s = some (.inl s') ∧ I s' ∧ μ s' < μ s) ∨ ∃ o, f s = some (.inr o) ∧ post o) : ∀ n s, I s → μ s < n → ∃ o, jQ2 f n s = some o ∧ post o := by
  intro n
  induction n with
  | zero => intro s _ h; exact absurd h (Nat.not_lt_zero _)
  | succ n ih =>
    intro s hs hm
    rcases h s hs with ⟨s', e, hs', hm'⟩ | ⟨o, e, hp⟩
    · obtain ⟨o, h1, h2⟩ := ih s' hs' (by omega)
      exact ⟨o, by simp [jQ2, e, h1], h2⟩
    · exact ⟨o, by simp [jQ2, e], hp⟩
theorem qQp {f : S → Option (S ⊕ O)} (I : S → Prop) (μ : S → Nat) (r : O) (h : ∀ s, I s → (∃ s', f s = some (.inl s') ∧ I s' ∧ μ s' < μ s) ∨ f s = some (.inr r)) (n : Nat) (s : S) (hs : I s) (hm : μ s < n) : jQ2 f n s = some r := by
 obtain ⟨o, h1, rfl⟩ := qKn I μ (fun o => o = r) (fun s hs => (h s hs).imp id (fun e => ⟨r, e, rfl⟩)) n s hs hm
 exact h1
theorem qJn {f : Int → Option (Int ⊕ O)} (m : Nat) (r : O) (P : Nat → Prop) (h : ∀ i : Nat, i < m → P i → (f i = some (.inl ((i + 1 : Nat) : Int)) ∧ P (i + 1)) ∨ f i = some (.inr r)) (he : P m → f m = some (.inr r)) (h0 : P 0) (n : Nat) (hn : m < n) : jQ2 f n 0 = some r :=
  qQp (fun s : Int => ∃ i : Nat, s = (i : Int) ∧ i ≤ m ∧ P i) (fun s : Int => m - s.toNat) r (by
    rintro s ⟨i, rfl, hi, hp⟩
    by_cases hlt : i < m
    · rcases h i hlt hp with ⟨e, hp'⟩ | e
      · exact .inl ⟨_, e, ⟨i + 1, rfl, by omega, hp'⟩, by simp; omega⟩
      · exact .inr e
    · obtain rfl : i = m := by omega
      exact .inr (he hp)) n 0 ⟨0, rfl, Nat.zero_le _, h0⟩ (by simp; omega)
theorem w64 {n : Int} (h0 : -9223372036854775808 ≤ n) (h1 : n ≤ 9223372036854775807) : IntKind.i64.wrap n = n := jNm h0 h1
theorem jN4 {n : Nat} (h : n < 9223372036854775807) : IntKind.i64.wrap ((n : Int) + 1) = ((n + 1 : Nat) : Int) := by rw [w64 (by omega) (by omega)]; rfl
theorem jKu {xs : List α} {i : Nat} (h : i < xs.length) : idx xs (i : Int) = some xs[i] := by
 unfold idx
 rw [if_neg (by omega)]
 simp [h]
@[simp] theorem jXx {a b : Int} : jJq .lss a b = decide (a < b) := by rfl
@[simp] theorem jM0 {a b : Int} : jJq .leq a b = decide (a ≤ b) := by rfl
@[simp] theorem jKv {a b : Int} : jJq .gtr a b = decide (b < a) := by rfl
@[simp] theorem jMp {a b : Int} : jJq .geq a b = decide (b ≤ a) := by rfl
@[simp] theorem jW0 {a b : Int} : jJq .eql a b = decide (a = b) := by rfl
@[simp] theorem jYu {a b : Int} : jJq .neq a b = !decide (a = b) := by rfl
end Go.KB
namespace Go.KB
def inR (lo hi n : Int) : Bool := decide (lo ≤ n) && decide (n ≤ hi)
def chr (c : UInt8) : Int := ((UInt8.toNat c : Nat) : Int)
def jL7 (c : UInt8) : Bool := (decide (97 ≤ chr c) && decide (chr c ≤ 122)) || (decide (65 ≤ chr c) && decide (chr c ≤ 90))
def jD5 (c : UInt8) : Bool := jL7 c || decide (chr c = 45) || (decide (48 ≤ chr c) && decide (chr c ≤ 57))
def jYa (s : Str) : Bool := match s with | [] => false | c :: r => decide (r.length < 12) && jL7 c && r.all jD5
end Go.KB
namespace Go.KB
set_option linter.unusedVariables false
def limbs (n : Nat) : List Int := if h : n = 0 then [] else ((n % 65536 : Nat) : Int) :: limbs (n / 65536)
termination_by n
decreasing_by omega
def val : List Int → Nat
 | [] => 0
 | d :: r => d.toNat + 65536 * val r
def Dig (l : List Int) : Prop := ∀ d ∈ l, 0 ≤ d ∧ d < 65536
theorem jD4 : limbs 0 = [] := by unfold limbs; simp
theorem jNc {n : Nat} (h : n ≠ 0) : limbs n = ((n % 65536 : Nat) : Int) :: limbs (n / 65536) := by rw [limbs]; simp [h]
theorem jNj (n : Nat) : Dig (limbs n) := by
 induction n using Nat.strongRecOn with
 | ind n ih =>
  by_cases h : n = 0
  ·subst h; rw [jD4]; intro d hd; cases hd
  ·rw [jNc h]
   intro d hd
   rcases List.mem_cons.1 hd with rfl | hd
   ·omega
   ·exact ih _ (by omega) d hd
theorem jSf (n : Nat) : val (limbs n) = n := by
 induction n using Nat.strongRecOn with
 | ind n ih =>
  by_cases h : n = 0
  ·subst h; rw [jD4]; rfl
  ·rw [jNc h, val, ih _ (by omega)]; omega
theorem qVb {n k : Nat} (h : n < 65536 ^ k) : (limbs n).length ≤ k := by
 induction k generalizing n with
 | zero => simp at h; subst h; rw [jD4]; simp
 | succ k ih =>
  by_cases h0 : n = 0
  ·subst h0; rw [jD4]; simp
  ·rw [jNc h0, List.length_cons]
   have := ih (n := n / 65536) (by rw [Nat.div_lt_iff_lt_mul (by decide)]; rwa [Nat.pow_succ] at h)
   omega
theorem jDf {α : Type} {xs ys : List α} (h : xs.length + ys.length ≤ lim) : app xs ys = some (xs ++ ys) := by
 unfold app; rw [Nat.ble_eq_true_of_le h]; rfl
theorem u64n {n : Nat} (h : n < 18446744073709551616) : IntKind.u64.wrap (n : Int) = n := by rw [IntKind.wrap_u64]; omega
theorem u16n {n : Nat} : IntKind.u16.wrap (n : Int) = ((n % 65536 : Nat) : Int) := by rw [IntKind.wrap_u16]; omega
theorem shr16 {n : Nat} {k : IntKind} (hk : 16 ≤ k.bits) : qQf k (n : Int) 16 = some ((n / 65536 : Nat) : Int) := by
 unfold qQf
 rw [if_neg (by decide), show min (Int.toNat 16) k.bits = 16 by simp; omega, Int.fdiv_eq_ediv_of_nonneg _ (by decide)]
 rfl
theorem val_append (l m : List Int) : val (l ++ m) = val l + 65536 ^ l.length * val m := by
 induction l with
 | nil => simp [val]
 | cons d r ih => simp only [List.cons_append, val, ih, List.length_cons, Nat.pow_succ, Nat.mul_add, Nat.add_assoc]; congr 2; rw [← Nat.mul_assoc, Nat.mul_comm 65536]
end Go.KB
namespace Go.KB
set_option linter.unusedVariables false
theorem qYp {a : Nat} (h : 65536 * a < 18446744073709551616) : qX1 .u64 (a : Int) 16 = some ((65536 * a : Nat) : Int) := by
 unfold qX1
 rw [if_neg (by decide), show min (Int.toNat 16) IntKind.u64.bits = 16 by decide, IntKind.wrap_u64]
 congr 1
 rw [show (2 : Int) ^ 16 = 65536 by decide]; omega
theorem qUr {l : List Int} (h : Dig l) : val l < 65536 ^ l.length := by
 induction l with
 | nil => simp [val]
 | cons d r ih =>
  have hd := h d List.mem_cons_self
  have := ih (fun x hx => h x (List.mem_cons_of_mem _ hx))
  simp only [val, List.length_cons, Nat.pow_succ]
  have : d.toNat < 65536 := by omega
  have : 65536 * val r + 65536 ≤ 65536 ^ r.length * 65536 := by
   rw [Nat.mul_comm (65536 ^ r.length)]
   exact Nat.mul_le_mul_left 65536 (by omega : val r + 1 ≤ 65536 ^ r.length)
  omega
theorem qGc {a b : Nat} (h : b ≠ 0) : jS9 (a : Int) (b : Int) = some ((a % b : Nat) : Int) := by
 unfold jS9
 rw [if_neg (by omega)]
 rfl
end Go.KB
namespace Go.KB
set_option linter.unusedVariables false
theorem qV8 (l : List Int) {k : Nat} (hk : k ≤ l.length) : val l = val (l.take k) + 65536 ^ k * val (l.drop k) := by
 have := val_append (l.take k) (l.drop k)
 rw [List.take_append_drop, List.length_take, Nat.min_eq_left hk] at this
 exact this
end Go.KB
namespace Go.KB
set_option linter.unusedVariables false
theorem jPe {n : Int} (h0 : -9223372036854775808 ≤ n) (h1 : n ≤ 9223372036854775807) : IntKind.i64.wrap n = n := jNm h0 h1
theorem u64i {n : Int} (h0 : 0 ≤ n) (h1 : n < 18446744073709551616) : IntKind.u64.wrap n = n := by rw [IntKind.wrap_u64]; omega
theorem dT {p : Prop} [Decidable p] (h : p) : decide p = true := decide_eq_true h
theorem dF {p : Prop} [Decidable p] (h : ¬p) : decide p = false := decide_eq_false h
def ldg (l : List Int) (i : Nat) : Nat := (l.getD i 0).toNat
theorem qZ0 {l : List Int} {i : Nat} (hi : i < l.length) : ldg l i = l[i].toNat := by unfold ldg; simp [hi]
theorem qHq {l : List Int} {i : Nat} (hi : l.length ≤ i) : ldg l i = 0 := by unfold ldg; simp [hi]
theorem qGm {l : List Int} (h : Dig l) {i : Nat} (hi : i < l.length) : l[i] = ((ldg l i : Nat) : Int) := by
 rw [qZ0 hi]; have := h _ (List.getElem_mem hi); omega
theorem idx_dg {l : List Int} {i : Nat} (h : Dig l) (hi : i < l.length) : idx l (i : Int) = some ((ldg l i : Nat) : Int) := by rw [jKu hi, qGm h hi]
theorem qKv (l : List Int) (i : Nat) : val (l.drop i) = ldg l i + 65536 * val (l.drop (i + 1)) := by
 by_cases hi : i < l.length
 ·rw [List.drop_eq_getElem_cons hi, qZ0 hi]; rfl
 ·rw [List.drop_of_length_le (by omega), List.drop_of_length_le (by omega), qHq (by omega)]; rfl
theorem qGv (l : List Int) (i : Nat) : val l = val (l.take i) + 65536 ^ i * val (l.drop i) := by
 by_cases hi : i ≤ l.length
 ·exact qV8 l hi
 ·rw [List.take_of_length_le (by omega), List.drop_of_length_le (by omega)]; simp [val]
def nl (n : Nat) : Nat := (limbs n).length
theorem qYc {n k : Nat} (h : n < 65536 ^ k) : nl n ≤ k := qVb h
theorem nl_eq (n : Nat) : (limbs n).length = nl n := rfl
end Go.KB
namespace Go.KB
set_option linter.unusedVariables false
def jXw (e : Nat → Int) : Nat → Nat → Int
 | 0, _ => 0
 | k + 1, i => if e i = 0 then jXw e k (i + 1) else e i
theorem jUy {e : Nat → Int} : ∀ {k i : Nat}, jXw e k i = 0 → ∀ j, i ≤ j → j < i + k → e j = 0 := by
 intro k
 induction k with
 | zero => intro i _ j h1 h2; omega
 | succ k ih =>
  intro i h j h1 h2
  simp only [jXw] at h
  split at h
  ·rename_i h0
   rcases Nat.eq_or_lt_of_le h1 with rfl | h1
   ·exact h0
   ·exact ih h j h1 (by omega)
  ·rename_i h0; exact absurd h h0
def jF3 {O : Type} (fin : O) (err : Int → O) (z : Int) : O := if z = 0 then fin else err z
theorem jFx {e : Nat → Int} {k i : Nat} (h : e i = 0) : jXw e (k + 1) i = jXw e k (i + 1) := by simp [jXw, h]
theorem jM8 {e : Nat → Int} {k i : Nat} (h : e i ≠ 0) : jXw e (k + 1) i = e i := by simp [jXw, h]
theorem jH8 {O : Type} {n N : Nat} {f : Int → Option (Int ⊕ O)} {e : Nat → Int} {fin : O} {err : Int → O} (hf : ∀ i : Nat, i < n → (∀ j, j < i → e j = 0) → f (i : Int) = if e i = 0 then some (.inl ((i + 1 : Nat) : Int)) else some (.inr (err (e i)))) (he : (∀ j, j < n → e j = 0) → f (n : Int) = some (.inr fin)) (hN : n < N) :
  jQ2 f N 0 = some (jF3 fin err (jXw e n 0)) := by
 have key : ∀ k i, i + k = n → (∀ j, j < i → e j = 0) → ∀ M, k < M → jQ2 f M (i : Int) = some (jF3 fin err (jXw e k i)) := by
  intro k
  induction k with
  | zero =>
   intro i hi hz M hM
   obtain ⟨M, rfl⟩ : ∃ m, M = m + 1 := ⟨M - 1, by omega⟩
   have : i = n := by omega
   subst this
   simp only [jQ2, he hz, jXw]; rfl
  | succ k ih =>
   intro i hi hz M hM
   obtain ⟨M, rfl⟩ : ∃ m, M = m + 1 := ⟨M - 1, by omega⟩
   simp only [jQ2, hf i (by omega) hz]
   by_cases h0 : e i = 0
   ·rw [if_pos h0, jFx h0]
    exact ih (i + 1) (by omega) (fun j hj => by
     rcases Nat.lt_succ_iff_lt_or_eq.1 hj with h | rfl
     ·exact hz j h
     ·exact h0) M (by omega)
   ·rw [if_neg h0, jM8 h0]
    unfold jF3
    rw [if_neg h0]
 exact key n 0 (by omega) (fun j hj => absurd hj (Nat.not_lt_zero _)) N (by omega)
theorem jRh {S O : Type} {n N : Nat} {f : S → Option (S ⊕ O)} {e : Nat → Int} {fin : O} {err : Int → O} (g : Nat → S) (hf : ∀ i : Nat, i < n → (∀ j, j < i → e j = 0) → f (g i) = if e i = 0 then some (.inl (g (i + 1))) else some (.inr (err (e i)))) (he : (∀ j, j < n → e j = 0) → f (g n) = some (.inr fin)) (hN : n < N) :
  jQ2 f N (g 0) = some (jF3 fin err (jXw e n 0)) := by
 have key : ∀ k i, i + k = n → (∀ j, j < i → e j = 0) → ∀ M, k < M → jQ2 f M (g i) = some (jF3 fin err (jXw e k i)) := by
  intro k
  induction k with
  | zero =>
   intro i hi hz M hM
   obtain ⟨M, rfl⟩ : ∃ m, M = m + 1 := ⟨M - 1, by omega⟩
   have : i = n := by omega
   subst this
   simp only [jQ2, he hz, jXw]; rfl
  | succ k ih =>
   intro i hi hz M hM
   obtain ⟨M, rfl⟩ : ∃ m, M = m + 1 := ⟨M - 1, by omega⟩
   simp only [jQ2, hf i (by omega) hz]
   by_cases h0 : e i = 0
   ·rw [if_pos h0, jFx h0]
    exact ih (i + 1) (by omega) (fun j hj => by
     rcases Nat.lt_succ_iff_lt_or_eq.1 hj with h | rfl
     ·exact hz j h
     ·exact h0) M (by omega)
   ·rw [if_neg h0, jM8 h0]
    unfold jF3
    rw [if_neg h0]
 exact key n 0 (by omega) (fun j hj => absurd hj (Nat.not_lt_zero _)) N (by omega)
theorem qYm {α : Type} [Inhabited α] {l : List α} {i : Nat} (h : i < l.length) : l[i]! = l[i] := by simp [h]
theorem qX7 {α : Type} [Inhabited α] {l : List α} {i : Nat} (h : i < l.length) : idx l (i : Int) = some l[i]! := by rw [jKu h, qYm h]
theorem idxP {α : Type} [Inhabited α] {l : List α} {i : Nat} (h : i < l.length) (h0 : i ≠ 0) (hl : l.length < 1000000) : idx l (IntKind.i64.wrap ((i : Int) - 1)) = some l[i - 1]! := by
 rw [jPe (by omega) (by omega), show (i : Int) - 1 = ((i - 1 : Nat) : Int) by omega, qX7 (by omega)]
theorem jLm : ∀ {k i : Nat}, jXw (fun _ => 0) k i = 0 := by
 intro k
 induction k with
 | zero => intro i; rfl
 | succ n ih => intro i; rw [jFx (e := fun _ => 0) rfl]; exact ih
end Go.KB
