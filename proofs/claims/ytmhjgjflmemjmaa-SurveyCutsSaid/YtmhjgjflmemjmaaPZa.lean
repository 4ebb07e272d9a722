/- Plain laws: loops, comparisons, indices. Plain laws: limits and names. Plain laws of the exact package's natural numbers. Plain laws of the exact package: words, greatest common divisors, division by one limb. Plain laws of the exact package: comparison, division by one limb, fractions of small numbers. Plain laws: digits of lists of limbs; arithmetic of machine integers within their limits. Plain laws: loops that look for the first error, that make a list, that change a list in its place. No condition. -/
import Derived.Test.YtmhjgjflmemjmaaKZb
import Derived.Laws.Bits64
import Derived.Laws.BitsAllLaws
import Derived.Test.YtmhjgjflmemjmaaGPure
namespace Go.KB
theorem bS {α β : Type} {a : α} {f : α → Option β} : (some a).bind f = f a := rfl
theorem cnT {α : Type} {a b : α} : (bif true then a else b) = a := rfl
theorem cnF {α : Type} {a b : α} : (bif false then a else b) = b := rfl
variable {S O α β : Type}
theorem loopN_of {f : S → Option (S ⊕ O)} (I : S → Prop) (μ : S → Nat) (post : O → Prop)
    (h : ∀ s, I s → (∃ s', f s = some (.inl s') ∧ I s' ∧ μ s' < μ s) ∨ ∃ o, f s = some (.inr o) ∧ post o) : ∀ n s, I s → μ s < n → ∃ o, loopN f n s = some o ∧ post o := by
  intro n
  induction n with
  | zero => intro s _ h; exact absurd h (Nat.not_lt_zero _)
  | succ n ih =>
    intro s hs hm
    rcases h s hs with ⟨s', e, hs', hm'⟩ | ⟨o, e, hp⟩
    · obtain ⟨o, h1, h2⟩ := ih s' hs' (by omega)
      exact ⟨o, by simp [loopN, e, h1], h2⟩
    · exact ⟨o, by simp [loopN, e], hp⟩
theorem loopN_eq {f : S → Option (S ⊕ O)} (I : S → Prop) (μ : S → Nat) (r : O) (h : ∀ s, I s → (∃ s', f s = some (.inl s') ∧ I s' ∧ μ s' < μ s) ∨ f s = some (.inr r)) (n : Nat) (s : S) (hs : I s) (hm : μ s < n) : loopN f n s = some r := by
 obtain ⟨o, h1, rfl⟩ := loopN_of I μ (fun o => o = r) (fun s hs => (h s hs).imp id (fun e => ⟨r, e, rfl⟩)) n s hs hm
 exact h1
theorem loopN_range {f : Int → Option (Int ⊕ O)} (m : Nat) (r : O) (P : Nat → Prop) (h : ∀ i : Nat, i < m → P i → (f i = some (.inl ((i + 1 : Nat) : Int)) ∧ P (i + 1)) ∨ f i = some (.inr r)) (he : P m → f m = some (.inr r)) (h0 : P 0) (n : Nat) (hn : m < n) : loopN f n 0 = some r :=
  loopN_eq (fun s : Int => ∃ i : Nat, s = (i : Int) ∧ i ≤ m ∧ P i) (fun s : Int => m - s.toNat) r (by
    rintro s ⟨i, rfl, hi, hp⟩
    by_cases hlt : i < m
    · rcases h i hlt hp with ⟨e, hp'⟩ | e
      · exact .inl ⟨_, e, ⟨i + 1, rfl, by omega, hp'⟩, by simp; omega⟩
      · exact .inr e
    · obtain rfl : i = m := by omega
      exact .inr (he hp)) n 0 ⟨0, rfl, Nat.zero_le _, h0⟩ (by simp; omega)
theorem loopN_fold {σ : Type} {f : (σ × Int) → Option ((σ × Int) ⊕ O)} (m : Nat) (g : Nat → σ) (r : O) (h : ∀ i : Nat, i < m → f (g i, (i : Int)) = some (.inl (g (i + 1), ((i + 1 : Nat) : Int)))) (he : f (g m, (m : Int)) = some (.inr r)) (n : Nat) (hn : m < n) : loopN f n (g 0, 0) = some r :=
  loopN_eq (fun s => ∃ i : Nat, s = (g i, (i : Int)) ∧ i ≤ m) (fun s => m - s.2.toNat) r (by
    rintro s ⟨i, rfl, hi⟩
    by_cases hlt : i < m
    · exact .inl ⟨_, h i hlt, ⟨i + 1, rfl, by omega⟩, by simp; omega⟩
    · obtain rfl : i = m := by omega
      exact .inr he) n _ ⟨0, rfl, Nat.zero_le _⟩ (by simp; omega)

theorem w64 {n : Int} (h0 : -9223372036854775808 ≤ n) (h1 : n ≤ 9223372036854775807) : IntKind.i64.wrap n = n := wrap64_id h0 h1
theorem w64s {n : Nat} (h : n < 9223372036854775807) : IntKind.i64.wrap ((n : Int) + 1) = ((n + 1 : Nat) : Int) := by rw [w64 (by omega) (by omega)]; rfl
theorem idx_nat {xs : List α} {i : Nat} (h : i < xs.length) : idx xs (i : Int) = some xs[i] := by
 unfold idx
 rw [if_neg (by omega)]
 simp [h]
@[simp] theorem cmp_lss {a b : Int} : cmpI .lss a b = decide (a < b) := by rfl
@[simp] theorem cmp_leq {a b : Int} : cmpI .leq a b = decide (a ≤ b) := by rfl
@[simp] theorem cmp_gtr {a b : Int} : cmpI .gtr a b = decide (b < a) := by rfl
@[simp] theorem cmp_geq {a b : Int} : cmpI .geq a b = decide (b ≤ a) := by rfl
@[simp] theorem cmp_eql {a b : Int} : cmpI .eql a b = decide (a = b) := by rfl
@[simp] theorem cmp_neq {a b : Int} : cmpI .neq a b = !decide (a = b) := by rfl
end Go.KB
namespace Go.KB
def inR (lo hi n : Int) : Bool := decide (lo ≤ n) && decide (n ≤ hi)
def chr (c : UInt8) : Int := ((UInt8.toNat c : Nat) : Int)
def isLetter (c : UInt8) : Bool := (decide (97 ≤ chr c) && decide (chr c ≤ 122)) || (decide (65 ≤ chr c) && decide (chr c ≤ 90))
def isNameChar (c : UInt8) : Bool := isLetter c || decide (chr c = 45) || (decide (48 ≤ chr c) && decide (chr c ≤ 57))
def isName (s : Str) : Bool := match s with | [] => false | c :: r => decide (r.length < 12) && isLetter c && r.all isNameChar
end Go.KB
namespace Go.KB
set_option linter.unusedVariables false
def val : List Int → Nat
 | [] => 0
 | d :: r => d.toNat + 65536 * val r
theorem app_ok {α : Type} {xs ys : List α} (h : xs.length + ys.length ≤ lim) : app xs ys = some (xs ++ ys) := by
 unfold app; rw [Nat.ble_eq_true_of_le h]; rfl
theorem slc_take {α : Type} {xs : List α} {n : Nat} (h : n ≤ xs.length) : slc xs 0 (n : Int) = some (xs.take n) := by
 unfold slc
 rw [show (decide ((0 : Int) ≤ 0) && decide ((0 : Int) ≤ (n : Int)) && decide ((n : Int) ≤ (xs.length : Int))) = true by simp; omega, cnT]
 simp
end Go.KB
namespace Go.KB
set_option linter.unusedVariables false
end Go.KB
namespace Go.KB
set_option linter.unusedVariables false
end Go.KB
namespace Go.KB
set_option linter.unusedVariables false
theorem w64i {n : Int} (h0 : -9223372036854775808 ≤ n) (h1 : n ≤ 9223372036854775807) : IntKind.i64.wrap n = n := wrap64_id h0 h1
theorem u64i {n : Int} (h0 : 0 ≤ n) (h1 : n < 18446744073709551616) : IntKind.u64.wrap n = n := by rw [IntKind.wrap_u64]; omega
theorem dT {p : Prop} [Decidable p] (h : p) : decide p = true := decide_eq_true h
theorem dF {p : Prop} [Decidable p] (h : ¬p) : decide p = false := decide_eq_false h
end Go.KB
namespace Go.KB
set_option linter.unusedVariables false
theorem bang {α : Type} [Inhabited α] {l : List α} {i : Nat} (h : i < l.length) : l[i]! = l[i] := by simp [h]
theorem idxB {α : Type} [Inhabited α] {l : List α} {i : Nat} (h : i < l.length) : idx l (i : Int) = some l[i]! := by rw [idx_nat h, bang h]
theorem loop_map {α β : Type} {f : (List β × Int) → Option ((List β × Int) ⊕ List β)} {N : Nat} (l : List α) (g : α → β) (hf : ∀ (i : Nat) (hi : i < l.length) (acc : List β), acc.length = i → f (acc, (i : Int)) = some (.inl (acc ++ [g l[i]], ((i + 1 : Nat) : Int))))
  (he : ∀ acc, f (acc, (l.length : Int)) = some (.inr acc)) (hN : l.length < N) : loopN f N ([], 0) = some (l.map g) := by
 have := loopN_fold (f := f) l.length (fun i => (l.take i).map g) (l.map g) (fun i hi => by
  rw [hf i hi _ (by rw [List.length_map, List.length_take]; omega), List.take_succ_eq_append_getElem hi, List.map_append]; rfl) (by rw [List.take_length]; exact he _) N hN
 simpa using this
end Go.KB
