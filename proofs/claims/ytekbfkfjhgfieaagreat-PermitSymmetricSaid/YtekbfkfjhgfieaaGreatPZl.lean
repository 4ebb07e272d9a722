/- Plain laws of chapter 7: loops, names, sets of names. Plain laws of chapter 7: searches, names, places of spaces and permits. Plain laws of chapter 7: CheckPlan. Plain laws of chapter 7: which plans are looked at. No condition. -/
import Derived.Test.YtekbfkfjhgfieaaGreatPZa
import Derived.Test.YtekbfkfjhgfieaaGreatGPure
namespace Go.KB
set_option linter.unusedVariables false
theorem w64i {n : Int} (h0 : -9223372036854775808 ≤ n) (h1 : n ≤ 9223372036854775807) : IntKind.i64.wrap n = n := wrap64_id h0 h1
theorem dT {p : Prop} [Decidable p] (h : p) : decide p = true := decide_eq_true h
theorem dF {p : Prop} [Decidable p] (h : ¬p) : decide p = false := decide_eq_false h
def firstErr (e : Nat → Int) : Nat → Nat → Int
 | 0, _ => 0
 | k + 1, i => if e i = 0 then firstErr e k (i + 1) else e i
theorem firstErr_zero {e : Nat → Int} : ∀ {k i : Nat}, firstErr e k i = 0 → ∀ j, i ≤ j → j < i + k → e j = 0 := by
 intro k
 induction k with
 | zero => intro i _ j h1 h2; omega
 | succ k ih =>
  intro i h j h1 h2
  simp only [firstErr] at h
  split at h
  ·rename_i h0
   rcases Nat.eq_or_lt_of_le h1 with rfl | h1
   ·exact h0
   ·exact ih h j h1 (by omega)
  ·rename_i h0; exact absurd h h0
theorem firstErr_congr {e e' : Nat → Int} : ∀ {k i : Nat}, (∀ j, i ≤ j → j < i + k → (∀ m, i ≤ m → m < j → e m = 0) → e j = e' j) → firstErr e k i = firstErr e' k i := by
 intro k
 induction k with
 | zero => intro i _; rfl
 | succ k ih =>
  intro i h
  have h0 := h i (Nat.le_refl _) (by omega) (fun m h1 h2 => by omega)
  simp only [firstErr]
  rw [← h0]
  by_cases hz : e i = 0
  ·rw [if_pos hz, if_pos hz]
   refine ih fun j h1 h2 h3 => h j (by omega) (by omega) fun m hm1 hm2 => ?_
   rcases Nat.eq_or_lt_of_le hm1 with rfl | hm1
   ·exact hz
   ·exact h3 m hm1 hm2
  ·rw [if_neg hz, if_neg hz]
def errOr {O : Type} (fin : O) (err : Int → O) (z : Int) : O := if z = 0 then fin else err z
theorem firstErr_s0 {e : Nat → Int} {k i : Nat} (h : e i = 0) : firstErr e (k + 1) i = firstErr e k (i + 1) := by simp [firstErr, h]
theorem firstErr_s1 {e : Nat → Int} {k i : Nat} (h : e i ≠ 0) : firstErr e (k + 1) i = e i := by simp [firstErr, h]
theorem loop_err {O : Type} {n N : Nat} {f : Int → Option (Int ⊕ O)} {e : Nat → Int} {fin : O} {err : Int → O} (hf : ∀ i : Nat, i < n → (∀ j, j < i → e j = 0) → f (i : Int) = if e i = 0 then some (.inl ((i + 1 : Nat) : Int)) else some (.inr (err (e i)))) (he : (∀ j, j < n → e j = 0) → f (n : Int) = some (.inr fin)) (hN : n < N) :
  loopN f N 0 = some (errOr fin err (firstErr e n 0)) := by
 have key : ∀ k i, i + k = n → (∀ j, j < i → e j = 0) → ∀ M, k < M → loopN f M (i : Int) = some (errOr fin err (firstErr e k i)) := by
  intro k
  induction k with
  | zero =>
   intro i hi hz M hM
   obtain ⟨M, rfl⟩ : ∃ m, M = m + 1 := ⟨M - 1, by omega⟩
   have : i = n := by omega
   subst this
   simp only [loopN, he hz, firstErr]; rfl
  | succ k ih =>
   intro i hi hz M hM
   obtain ⟨M, rfl⟩ : ∃ m, M = m + 1 := ⟨M - 1, by omega⟩
   simp only [loopN, hf i (by omega) hz]
   by_cases h0 : e i = 0
   ·rw [if_pos h0, firstErr_s0 h0]
    exact ih (i + 1) (by omega) (fun j hj => by
     rcases Nat.lt_succ_iff_lt_or_eq.1 hj with h | rfl
     ·exact hz j h
     ·exact h0) M (by omega)
   ·rw [if_neg h0, firstErr_s1 h0]
    unfold errOr
    rw [if_neg h0]
 exact key n 0 (by omega) (fun j hj => absurd hj (Nat.not_lt_zero _)) N (by omega)
theorem loop_errG {S O : Type} {n N : Nat} {f : S → Option (S ⊕ O)} {e : Nat → Int} {fin : O} {err : Int → O} (g : Nat → S) (hf : ∀ i : Nat, i < n → (∀ j, j < i → e j = 0) → f (g i) = if e i = 0 then some (.inl (g (i + 1))) else some (.inr (err (e i)))) (he : (∀ j, j < n → e j = 0) → f (g n) = some (.inr fin)) (hN : n < N) :
  loopN f N (g 0) = some (errOr fin err (firstErr e n 0)) := by
 have key : ∀ k i, i + k = n → (∀ j, j < i → e j = 0) → ∀ M, k < M → loopN f M (g i) = some (errOr fin err (firstErr e k i)) := by
  intro k
  induction k with
  | zero =>
   intro i hi hz M hM
   obtain ⟨M, rfl⟩ : ∃ m, M = m + 1 := ⟨M - 1, by omega⟩
   have : i = n := by omega
   subst this
   simp only [loopN, he hz, firstErr]; rfl
  | succ k ih =>
   intro i hi hz M hM
   obtain ⟨M, rfl⟩ : ∃ m, M = m + 1 := ⟨M - 1, by omega⟩
   simp only [loopN, hf i (by omega) hz]
   by_cases h0 : e i = 0
   ·rw [if_pos h0, firstErr_s0 h0]
    exact ih (i + 1) (by omega) (fun j hj => by
     rcases Nat.lt_succ_iff_lt_or_eq.1 hj with h | rfl
     ·exact hz j h
     ·exact h0) M (by omega)
   ·rw [if_neg h0, firstErr_s1 h0]
    unfold errOr
    rw [if_neg h0]
 exact key n 0 (by omega) (fun j hj => absurd hj (Nat.not_lt_zero _)) N (by omega)
theorem bang {α : Type} [Inhabited α] {l : List α} {i : Nat} (h : i < l.length) : l[i]! = l[i] := by simp [h]
theorem idxB {α : Type} [Inhabited α] {l : List α} {i : Nat} (h : i < l.length) : idx l (i : Int) = some l[i]! := by rw [idx_nat h, bang h]
theorem bif_none_some {α : Type} {b : Bool} {x y : α} : (bif b then some x else some y) = some (bif b then x else y) := by cases b <;> rfl
theorem firstErr_nil : ∀ {k i : Nat}, firstErr (fun _ => 0) k i = 0 := by
 intro k
 induction k with
 | zero => intro i; rfl
 | succ n ih => intro i; rw [firstErr_s0 (e := fun _ => 0) rfl]; exact ih
theorem mget_mset {α β : Type} [DecidableEq α] (z : β) (x k : α) (y : β) : ∀ m : List (α × β), mget z (mset m x y) k = if k = x then y else mget z m k
 | [] => by
  by_cases h : k = x
  ·subst h; simp [mget, mset]
  ·simp [mget, mset, h]
 | p :: r => by
  by_cases hp : x = p.1
  ·subst hp
   by_cases h : k = p.1
   ·subst h; simp [mget, mset]
   ·simp [mget, mset, h]
  ·by_cases h : k = p.1
   ·subst h; simp [mget, mset, hp, Ne.symm hp]
   ·simp [mget, mset, hp, h, mget_mset z x k y r]
theorem cmpS_eql (a b : Str) : cmpS .eql a b = decide (a = b) := by
 unfold cmpS
 rw [Bool.eq_iff_iff]
 simp
def dup (nm : Nat → Str) : Nat → Str → Bool
 | 0, _ => false
 | i + 1, x => decide (x = nm i) || dup nm i x
def seen (nm : Nat → Str) : Nat → List (Str × Bool)
 | 0 => []
 | i + 1 => mset (seen nm i) (nm i) true
theorem seen_get (nm : Nat → Str) (x : Str) : ∀ i, mget false (seen nm i) x = dup nm i x
 | 0 => rfl
 | i + 1 => by
  simp only [seen, dup, mget_mset, seen_get nm x i]
  by_cases h : x = nm i <;> simp [h]
theorem dup_iff (nm : Nat → Str) (x : Str) : ∀ i, dup nm i x = true ↔ ∃ j, j < i ∧ nm j = x
 | 0 => by simp [dup]
 | i + 1 => by
  simp only [dup, Bool.or_eq_true, decide_eq_true_eq, dup_iff nm x i]
  constructor
  ·rintro (h | ⟨j, h1, h2⟩)
   ·exact ⟨i, by omega, h.symm⟩
   ·exact ⟨j, by omega, h2⟩
  ·rintro ⟨j, h1, h2⟩
   by_cases hj : j = i
   ·subst hj; exact .inl h2.symm
   ·exact .inr ⟨j, by omega, h2⟩
def same (nm : Nat → Str) (x : Str) (j : Nat) : Int := if nm j = x then 5 else 0
def nameL (x0 : Str) (s1 : Int) : Option (Int ⊕ (Unit ⊕ Bool)) :=
 bif (cmpI .lss s1 (List.length x0 : Int)) then ((idx x0 s1).bind fun v2 => bif ((!(((cmpI .geq ((UInt8.toNat v2 : Nat) : Int) 97) && (cmpI .leq ((UInt8.toNat v2 : Nat) : Int) 122)) || ((cmpI .geq ((UInt8.toNat v2 : Nat) : Int) 65) && (cmpI .leq ((UInt8.toNat v2 : Nat) : Int) 90)))) && ((cmpI .eql s1 0) || ((cmpI .neq ((UInt8.toNat v2 : Nat) : Int) 45) && ((cmpI .lss ((UInt8.toNat v2 : Nat) : Int) 48) || (cmpI .gtr ((UInt8.toNat v2 : Nat) : Int) 57))))) then (some (.inr (Sum.inr false))) else (some (.inl (IntKind.i64.wrap (s1 + 1))))) else (some (.inr (Sum.inl ())))
def nameF (N : Nat) (x0 : Str) : Option (Bool) :=
 bif ((cmpI .lss (List.length x0 : Int) 1) || (cmpI .gtr (List.length x0 : Int) 12)) then (some false) else ((loopN (nameL x0) N 0).bind fun o5 => Sum.elim (fun l7 => some true) (fun r8 => some r8) o5)
theorem nameF_eq {N : Nat} {s : Str} (hN : 13 ≤ N) : nameF N s = some (isName s) := by
  unfold nameF
  by_cases hlen : s.length < 1 ∨ 12 < s.length
  · have hc : (cmpI .lss (s.length : Int) 1 || cmpI .gtr (s.length : Int) 12) = true := by
      simp; omega
    rw [hc, cond_true]
    congr 1
    unfold isName
    rcases hlen with h | h
    · have : s = [] := List.eq_nil_of_length_eq_zero (by omega)
      subst this; rfl
    · cases s with
      | nil => rfl
      | cons c r => simp at h; simp; intro h'; omega
  · have hc : (cmpI .lss (s.length : Int) 1 || cmpI .gtr (s.length : Int) 12) = false := by
      rw [Bool.or_eq_false_iff]; simp; omega
    rw [hc, cond_false]
    cases s with
    | nil => simp at hlen
    | cons c r =>
      have hr : r.length < 12 := by simp at hlen; omega
      have hbad : ∀ i (hi : i < (c :: r).length), ((!(((cmpI .geq ((UInt8.toNat (c :: r)[i] : Nat) : Int) 97) && (cmpI .leq ((UInt8.toNat (c :: r)[i] : Nat) : Int) 122)) || ((cmpI .geq ((UInt8.toNat (c :: r)[i] : Nat) : Int) 65) && (cmpI .leq ((UInt8.toNat (c :: r)[i] : Nat) : Int) 90)))) && ((cmpI .eql (i : Int) 0) || ((cmpI .neq ((UInt8.toNat (c :: r)[i] : Nat) : Int) 45) && ((cmpI .lss ((UInt8.toNat (c :: r)[i] : Nat) : Int) 48) || (cmpI .gtr ((UInt8.toNat (c :: r)[i] : Nat) : Int) 57))))) =
          !(if i = 0 then isLetter (c :: r)[i] else isNameChar (c :: r)[i]) := by
        intro i hi
        split
        · rename_i h0; subst h0
          simp only [cmp_eql, Int.natCast_zero, decide_true, Bool.true_or, Bool.and_true]
          rfl
        · rename_i h0
          rw [cmp_eql, show decide ((i : Int) = 0) = false by rw [decide_eq_false_iff_not]; omega, Bool.false_or]
          unfold isNameChar isLetter chr
          simp only [cmp_neq, cmp_lss, cmp_gtr, cmp_geq, cmp_leq]
          generalize ((UInt8.toNat (c :: r)[i] : Nat) : Int) = x
          rw [Bool.eq_iff_iff]
          simp only [Bool.and_eq_true, Bool.or_eq_true, Bool.not_eq_true', Bool.or_eq_false_iff, Bool.and_eq_false_iff, decide_eq_true_eq, decide_eq_false_iff_not]
          omega
      rw [loopN_range (c :: r).length (if isName (c :: r) then .inl () else .inr false) (fun i => ∀ j (h : j < (c :: r).length), j < i → (if j = 0 then isLetter (c :: r)[j] else isNameChar (c :: r)[j]) = true) ?_ ?_ (fun j _ h => absurd h (Nat.not_lt_zero _)) N (by simp; omega)]
      · cases isName (c :: r) <;> rfl
      · intro i hi hp
        unfold nameL
        rw [cmp_lss, show decide ((i : Int) < ((c :: r).length : Int)) = true by rw [decide_eq_true_eq]; omega, cond_true, idx_nat hi, bS, hbad i hi, w64s (show i < 9223372036854775807 by simp at hi; omega)]
        cases hg : (if i = 0 then isLetter (c :: r)[i] else isNameChar (c :: r)[i]) with
        | true =>
          refine .inl ⟨rfl, fun j hj hji => ?_⟩
          rcases Nat.lt_succ_iff_lt_or_eq.1 hji with h | rfl
          · exact hp j hj h
          · exact hg
        | false =>
          refine .inr ?_
          have : isName (c :: r) = false := by
            rw [Bool.eq_false_iff]
            intro h
            simp only [isName, Bool.and_eq_true, decide_eq_true_eq] at h
            obtain ⟨⟨_, h1⟩, h2⟩ := h
            rw [List.all_eq_true] at h2
            cases i with
            | zero => simp [h1] at hg
            | succ i =>
              simp at hg
              have := h2 _ (List.getElem_mem (by simpa using hi : i < r.length))
              rw [this] at hg; cases hg
          rw [this]; rfl
      · intro hp
        unfold nameL
        rw [cmp_lss, show decide ((((c :: r).length : Nat) : Int) < ((c :: r).length : Int)) = false by simp, cond_false]
        have : isName (c :: r) = true := by
          simp only [isName, Bool.and_eq_true, decide_eq_true_eq]
          refine ⟨⟨hr, (by have h := hp 0 (by simp) (by simp); rw [if_pos rfl] at h; exact h)⟩, ?_⟩
          rw [List.all_eq_true]
          intro x hx
          obtain ⟨j, hj, rfl⟩ := List.getElem_of_mem hx
          have := hp (j + 1) (by simp; omega) (by simp; omega)
          simpa using this
        rw [this]; rfl
theorem IsName_eq {N : Nat} {s : Str} (hN : 13 ≤ N) : f_base_IsName N s = some (isName s) := nameF_eq hN
end Go.KB
namespace Go.KB
set_option linter.unusedVariables false
theorem loop_R {O : Type} {n N : Nat} {f : Int → Option (Int ⊕ O)} (R : Nat → O) (hf : ∀ i : Nat, i < n → (f (i : Int) = some (.inl ((i + 1 : Nat) : Int)) ∧ R i = R (i + 1)) ∨ f (i : Int) = some (.inr (R i))) (he : f (n : Int) = some (.inr (R n))) (hN : n < N) : loopN f N 0 = some (R 0) := by
 have key : ∀ k i, i + k = n → ∀ M, k < M → loopN f M (i : Int) = some (R i) := by
  intro k
  induction k with
  | zero =>
   intro i hi M hM
   obtain ⟨M, rfl⟩ : ∃ m, M = m + 1 := ⟨M - 1, by omega⟩
   have : i = n := by omega
   subst this
   simp only [loopN, he]
  | succ k ih =>
   intro i hi M hM
   obtain ⟨M, rfl⟩ : ∃ m, M = m + 1 := ⟨M - 1, by omega⟩
   rcases hf i (by omega) with ⟨h1, h2⟩ | h1
   ·simp only [loopN, h1]; rw [h2]; exact ih (i + 1) (by omega) M (by omega)
   ·simp only [loopN, h1]
 exact key n 0 (by omega) N (by omega)
theorem drop_at {α : Type} {l : List α} {i : Nat} (h : i < l.length) : l.drop i = l[i] :: l.drop (i + 1) := List.drop_eq_getElem_cons h
theorem loop_all {α : Type} {l : List α} {N : Nat} {f : Int → Option (Int ⊕ (Unit ⊕ Bool))} {g : α → Bool} (hf : ∀ (i : Nat) (h : i < l.length), f (i : Int) = bif g l[i] then some (.inl ((i + 1 : Nat) : Int)) else some (.inr (.inr false))) (he : f (l.length : Int) = some (.inr (.inl ()))) (hN : l.length < N) :
  ((loopN f N 0).bind fun o => Sum.elim (fun _ => some true) (fun r => some r) o) = some (l.all g) := by
 rw [loop_R (fun i => bif (l.drop i).all g then .inl () else .inr false) (fun i hi => ?_) (by simp [he]) hN]
 ·simp only [List.drop_zero, bS]; cases l.all g <;> rfl
 ·rw [hf i hi]
  simp only [drop_at hi, List.all_cons]
  cases g l[i]
  ·exact .inr rfl
  ·exact .inl ⟨rfl, by simp⟩
def ixI {α : Type} (g : α → Bool) (l : List α) : Int := if l.findIdx g < l.length then (l.findIdx g : Int) else -1
theorem loop_find {α : Type} {l : List α} {N : Nat} {f : Int → Option (Int ⊕ (Unit ⊕ Int))} {g : α → Bool} (hf : ∀ (i : Nat) (h : i < l.length), f (i : Int) = bif g l[i] then some (.inr (.inr (i : Int))) else some (.inl ((i + 1 : Nat) : Int))) (he : f (l.length : Int) = some (.inr (.inl ()))) (hN : l.length < N) :
  ((loopN f N 0).bind fun o => Sum.elim (fun _ => some (-1 : Int)) (fun r => some r) o) = some (ixI g l) := by
 rw [loop_R (fun i => if (l.drop i).findIdx g < (l.drop i).length then .inr (((i + (l.drop i).findIdx g : Nat)) : Int) else .inl ()) (fun i hi => ?_) (by simp [he]) hN]
 ·simp only [List.drop_zero, Nat.zero_add, bS, ixI]; split <;> rfl
 ·rw [hf i hi]
  simp only [drop_at hi, List.findIdx_cons]
  cases g l[i]
  ·refine .inl ⟨rfl, ?_⟩
   simp only [cond_false, List.length_cons, Nat.add_lt_add_iff_right]
   split
   ·congr 2; omega
   ·rfl
  ·refine .inr ?_
   simp only [cond_true, List.length_cons, Nat.zero_lt_succ, if_true, Nat.add_zero]
theorem ixI_pos {α : Type} {g : α → Bool} {l : List α} (h : l.findIdx g < l.length) : ixI g l = (l.findIdx g : Int) := if_pos h
theorem ixI_neg {α : Type} {g : α → Bool} {l : List α} (h : ¬ l.findIdx g < l.length) : ixI g l = -1 := if_neg h
theorem ixI_lt {α : Type} {g : α → Bool} {l : List α} : decide (ixI g l < 0) = !l.any g := by
 have : l.any g = true ↔ l.findIdx g < l.length := by
  rw [List.any_eq_true]
  exact List.findIdx_lt_length.symm
 by_cases h : l.findIdx g < l.length
 ·rw [ixI_pos h, this.2 h]; simp
 ·rw [ixI_neg h, Bool.eq_false_iff.2 (fun x => h (this.1 x))]; rfl
theorem pname_eq {N : Nat} {s : Str} (hN : 13 ≤ N) : f_permit_name N s = some (isName s) := by
  unfold f_permit_name
  by_cases hlen : s.length < 1 ∨ 12 < s.length
  · have hc : (cmpI .lss (s.length : Int) 1 || cmpI .gtr (s.length : Int) 12) = true := by simp; omega
    rw [hc]
    simp only [Bool.not_true, cond_false, bS, Bool.true_or, cond_true]
    congr 1
    unfold isName
    rcases hlen with h | h
    · have : s = [] := List.eq_nil_of_length_eq_zero (by omega)
      subst this; rfl
    · cases s with
      | nil => rfl
      | cons c r => simp at h; simp; intro h'; omega
  · have hc : (cmpI .lss (s.length : Int) 1 || cmpI .gtr (s.length : Int) 12) = false := by rw [Bool.or_eq_false_iff]; simp; omega
    rw [hc]
    cases s with
    | nil => simp at hlen
    | cons c r =>
      have hr : r.length < 12 := by simp at hlen; omega
      have hl : ∀ x : UInt8, f_permit_letter N ((UInt8.toNat x : Nat) : Int) = some (isLetter x) := fun x => rfl
      have h0 : idx (c :: r) 0 = some c := by have := idx_nat (xs := c :: r) (i := 0) (by simp); simpa using this
      simp only [Bool.not_false, cond_true, h0, bS, hl, Bool.false_or]
      cases hc : isLetter c with
      | false => simp [isName, hc]
      | true =>
        simp only [Bool.not_true, cond_false]
        have h1 : ∀ (i : Nat) (hi : i < (c :: r).length), f_permit_name_L1 N (c :: r) (i : Int) = bif isNameChar (c :: r)[i] then some (.inl ((i + 1 : Nat) : Int)) else some (.inr (.inr false)) := by
          intro i hi
          unfold f_permit_name_L1
          rw [cmp_lss, dT (by omega), cond_true, idx_nat hi, bS, hl, bS, w64s (show i < 9223372036854775807 by simp at hi; omega)]
          have : ((!isLetter (c :: r)[i] && cmpI .neq ((UInt8.toNat (c :: r)[i] : Nat) : Int) 45) && (cmpI .lss ((UInt8.toNat (c :: r)[i] : Nat) : Int) 48 || cmpI .gtr ((UInt8.toNat (c :: r)[i] : Nat) : Int) 57)) = !isNameChar (c :: r)[i] := by
            unfold isNameChar chr
            cases isLetter (c :: r)[i]
            · simp only [Bool.not_false, Bool.true_and, Bool.false_or, cmp_neq, cmp_lss, cmp_gtr]
              generalize ((UInt8.toNat (c :: r)[i] : Nat) : Int) = x
              rw [Bool.eq_iff_iff]
              simp only [Bool.and_eq_true, Bool.or_eq_true, Bool.not_eq_true', Bool.or_eq_false_iff, Bool.and_eq_false_iff, decide_eq_true_eq, decide_eq_false_iff_not]
              omega
            · simp
          rw [this]
          cases isNameChar (c :: r)[i] <;> rfl
        have h2 : f_permit_name_L1 N (c :: r) ((c :: r).length : Int) = some (.inr (.inl ())) := by
          unfold f_permit_name_L1
          rw [cmp_lss, dF (by omega), cond_false]
        rw [loop_all h1 h2 (by simp; omega)]
        simp [isName, hc, isNameChar, hr]
instance : Inhabited GSpace := ⟨⟨[], false, []⟩⟩
instance : Inhabited GPermit := ⟨⟨[], 0, [], 0, 0, []⟩⟩
instance : Inhabited GExclusion := ⟨⟨0, 0, 0⟩⟩
def isS (s : Str) (y : GSpace) : Bool := decide (y.Name = s)
def isP (s : Str) (y : GPermit) : Bool := decide (y.Name = s)
theorem IndexS_eq {N : Nat} {l : List GSpace} {f : GSpace → Option Bool} {g : GSpace → Bool} (hf : ∀ y, f y = some (g y)) (hl : l.length < 1000000) (hN : 1000000 ≤ N) : f_slices_IndexFunclapi_Space_api_Space N l f = some (ixI g l) := by
 unfold f_slices_IndexFunclapi_Space_api_Space
 refine loop_find (fun i hi => ?_) ?_ (by omega)
 ·unfold f_slices_IndexFunclapi_Space_api_Space_L1
  rw [cmp_lss, dT (by omega), cond_true, idx_nat hi, bS, hf, bS, w64s (by omega)]
 ·unfold f_slices_IndexFunclapi_Space_api_Space_L1
  rw [cmp_lss, dF (by omega), cond_false]
theorem IndexP_eq {N : Nat} {l : List GPermit} {f : GPermit → Option Bool} {g : GPermit → Bool} (hf : ∀ y, f y = some (g y)) (hl : l.length < 1000000) (hN : 1000000 ≤ N) : f_slices_IndexFunclapi_Permit_api_Permit N l f = some (ixI g l) := by
 unfold f_slices_IndexFunclapi_Permit_api_Permit
 refine loop_find (fun i hi => ?_) ?_ (by omega)
 ·unfold f_slices_IndexFunclapi_Permit_api_Permit_L1
  rw [cmp_lss, dT (by omega), cond_true, idx_nat hi, bS, hf, bS, w64s (by omega)]
 ·unfold f_slices_IndexFunclapi_Permit_api_Permit_L1
  rw [cmp_lss, dF (by omega), cond_false]
theorem rSpace_eq {N : Nat} {p : GPermitPlan} {s : Str} (hl : p.Spaces.length < 1000000) (hN : 1000000 ≤ N) : f_ref07_Space N p s = some (ixI (isS s) p.Spaces) := by
 unfold f_ref07_Space
 refine loop_find (fun i hi => ?_) ?_ (by omega)
 ·unfold f_ref07_Space_L1
  rw [cmp_lss, dT (by omega), cond_true, idx_nat hi, bS, cmpS_eql, w64s (by omega)]; rfl
 ·unfold f_ref07_Space_L1
  rw [cmp_lss, dF (by omega), cond_false]
theorem rPermit_eq {N : Nat} {p : GPermitPlan} {s : Str} (hl : p.Permits.length < 1000000) (hN : 1000000 ≤ N) : f_ref07_Permit N p s = some (ixI (isP s) p.Permits) := by
 unfold f_ref07_Permit
 refine loop_find (fun i hi => ?_) ?_ (by omega)
 ·unfold f_ref07_Permit_L1
  rw [cmp_lss, dT (by omega), cond_true, idx_nat hi, bS, cmpS_eql, w64s (by omega)]; rfl
 ·unfold f_ref07_Permit_L1
  rw [cmp_lss, dF (by omega), cond_false]
def findO {α : Type} (z : α) (g : α → Bool) (l : List α) : α × Bool := match l.find? g with | some y => (y, true) | none => (z, false)
theorem find_ix {α : Type} {g : α → Bool} : ∀ {l : List α}, (l.findIdx g < l.length ∧ ∃ h : l.findIdx g < l.length, l.find? g = some l[l.findIdx g]) ∨ (¬ l.findIdx g < l.length ∧ l.find? g = none) := by
 intro l
 by_cases h : l.findIdx g < l.length
 ·refine .inl ⟨h, h, ?_⟩
  exact (List.find?_eq_getElem?_findIdx ..).trans (List.getElem?_eq_getElem h)
 ·refine .inr ⟨h, ?_⟩
  rw [List.find?_eq_getElem?_findIdx, List.getElem?_eq_none (by omega)]
theorem spaceOf_eq {N : Nat} {p : GPermitPlan} {s : Str} (hl : p.Spaces.length < 1000000) (hN : 1000000 ≤ N) : f_permit_spaceOf N p s = some (findO ⟨[], false, []⟩ (isS s) p.Spaces) := by
 unfold f_permit_spaceOf
 rw [IndexS_eq (g := isS s) (fun y => by unfold f_permit_spaceOf_1; rw [cmpS_eql]; rfl) hl hN, bS, cmp_lss]
 unfold findO
 rcases find_ix (g := isS s) (l := p.Spaces) with ⟨_, h, h2⟩ | ⟨h, h2⟩
 ·rw [h2, ixI_pos h, dF (by omega), cond_false, idx_nat h]; rfl
 ·rw [h2, ixI_neg h]; rfl
theorem permitOf_eq {N : Nat} {p : GPermitPlan} {s : Str} (hl : p.Permits.length < 1000000) (hN : 1000000 ≤ N) : f_permit_permitOf N p s = some (findO ⟨[], 0, [], 0, 0, []⟩ (isP s) p.Permits) := by
 unfold f_permit_permitOf
 rw [IndexP_eq (g := isP s) (fun y => by unfold f_permit_permitOf_1; rw [cmpS_eql]; rfl) hl hN, bS, cmp_lss]
 unfold findO
 rcases find_ix (g := isP s) (l := p.Permits) with ⟨_, h, h2⟩ | ⟨h, h2⟩
 ·rw [h2, ixI_pos h, dF (by omega), cond_false, idx_nat h]; rfl
 ·rw [h2, ixI_neg h]; rfl
theorem findO_snd {α : Type} {z : α} {g : α → Bool} {l : List α} : (findO z g l).2 = l.any g := by
 unfold findO
 cases h : l.find? g with
 | none => simp only []; rw [eq_comm, Bool.eq_false_iff]; intro hx; rw [List.any_eq_true] at hx; obtain ⟨x, hx, hg⟩ := hx; exact absurd hg (by simpa using List.find?_eq_none.1 h x hx)
 | some y => simp only []; rw [eq_comm, List.any_eq_true]; exact ⟨y, List.mem_of_find?_eq_some h, List.find?_some h⟩
end Go.KB
namespace Go.KB
set_option linter.unusedVariables false
def seqE (a b : Int) : Int := if a = 0 then b else a
def okKind (k : Int) : Bool := decide (0 ≤ k) && decide (k ≤ 5)
def nmS (p : GPermitPlan) (i : Nat) : Str := p.Spaces[i]!.Name
def nmP (p : GPermitPlan) (i : Nat) : Str := p.Permits[i]!.Name
def hasS (p : GPermitPlan) (s : Str) : Bool := p.Spaces.any (isS s)
def hasP (p : GPermitPlan) (s : Str) : Bool := p.Permits.any (isP s)
def atP (p : GPermitPlan) (s : Str) : GPermit := (findO ⟨[], 0, [], 0, 0, []⟩ (isP s) p.Permits).1
def atS (p : GPermitPlan) (s : Str) : GSpace := (findO ⟨[], false, []⟩ (isS s) p.Spaces).1
def eSp (p : GPermitPlan) (i : Nat) : Int := if isName (nmS p i) = false then 4 else if dup (nmS p) i (nmS p i) = true then 5 else if 30 < p.Spaces[i]!.Next.length then 8 else 0
def eNx (p : GPermitPlan) (y : GSpace) (j : Nat) : Int := if hasS p y.Next[j]! = false then 6 else if y.Next[j]! = y.Name then 3 else 0
def eNxs (p : GPermitPlan) (i : Nat) : Int := firstErr (eNx p p.Spaces[i]!) p.Spaces[i]!.Next.length 0
def eEx (p : GPermitPlan) (i : Nat) : Int := if okKind p.Exclusions[i]!.A = false ∨ okKind p.Exclusions[i]!.B = false ∨ p.Exclusions[i]!.Reach < 0 ∨ 2 < p.Exclusions[i]!.Reach then 2 else 0
def ePm (p : GPermitPlan) (i : Nat) : Int := if isName (nmP p i) = false then 4 else if dup (nmP p) i (nmP p i) = true then 5 else
 if okKind p.Permits[i]!.Kind = false ∨ p.Permits[i]!.From < 0 ∨ p.Permits[i]!.To ≤ p.Permits[i]!.From ∨ 1000000 < p.Permits[i]!.To then 2 else if hasS p p.Permits[i]!.Space = false then 6 else if 10 < p.Permits[i]!.Locks.length then 8 else 0
def eLk (p : GPermitPlan) (y : GPermit) (j : Nat) : Int := if hasP p y.Locks[j]! = false then 6 else if (atP p y.Locks[j]!).Kind ≠ 5 ∨ y.Kind = 5 then 3 else 0
def eLks (p : GPermitPlan) (i : Nat) : Int := firstErr (eLk p p.Permits[i]!) p.Permits[i]!.Locks.length 0
def checkPlan (p : GPermitPlan) : Int := if 30 < p.Spaces.length ∨ 30 < p.Exclusions.length ∨ 20 < p.Permits.length then 8 else if p.GasMinutes < 1 ∨ 10000 < p.GasMinutes then 2 else
 seqE (seqE (firstErr (eSp p) p.Spaces.length 0) (firstErr (eNxs p) p.Spaces.length 0)) (seqE (firstErr (eEx p) p.Exclusions.length 0) (seqE (firstErr (ePm p) p.Permits.length 0) (firstErr (eLks p) p.Permits.length 0)))
structure SmP (p : GPermitPlan) : Prop where
 s : p.Spaces.length < 1000
 x : p.Exclusions.length < 1000
 m : p.Permits.length < 1000
 n : ∀ y ∈ p.Spaces, y.Next.length < 1000
 l : ∀ y ∈ p.Permits, y.Locks.length < 1000
theorem mem_bang {α : Type} [Inhabited α] {l : List α} {i : Nat} (h : i < l.length) : l[i]! ∈ l := by rw [bang h]; exact List.getElem_mem h
theorem bind_errOr {A : Type} {fin : A} {E : Int} {K : A → Option Int} : ((some (errOr (Sum.inl fin) (fun e => Sum.inr e) E) : Option (A ⊕ Int)).bind fun o => Sum.elim (fun l => K l) (fun r => some r) o) = if E = 0 then K fin else some E := by
 unfold errOr
 by_cases h : E = 0
 ·rw [if_pos h, if_pos h]; rfl
 ·rw [if_neg h, if_neg h]; rfl
theorem dup_ix {α : Type} [Inhabited α] {nm : α → Str} {x : Str} {l : List α} {i : Nat} (hi : i ≤ l.length) : dup (fun j => nm l[j]!) i x = (decide (0 ≤ ixI (fun y => decide (nm y = x)) l) && decide (ixI (fun y => decide (nm y = x)) l < (i : Int))) := by
 rw [Bool.eq_iff_iff, dup_iff, Bool.and_eq_true, decide_eq_true_eq, decide_eq_true_eq]
 constructor
 ·rintro ⟨j, hj, hx⟩
  have hjl : j < l.length := by omega
  rw [bang hjl] at hx
  have hle : l.findIdx (fun y => decide (nm y = x)) ≤ j := by
   rcases Nat.lt_or_ge j (l.findIdx (fun y => decide (nm y = x))) with h | h
   ·exact absurd (List.not_of_lt_findIdx h) (by simp [hx])
   ·exact h
  rw [ixI_pos (by omega)]
  omega
 ·rintro ⟨h1, h2⟩
  by_cases h : l.findIdx (fun y => decide (nm y = x)) < l.length
  ·rw [ixI_pos h] at h2
   refine ⟨l.findIdx (fun y => decide (nm y = x)), by omega, ?_⟩
   show nm l[l.findIdx (fun y => decide (nm y = x))]! = x
   rw [bang h]
   have := List.findIdx_getElem (xs := l) (p := fun y => decide (nm y = x)) (w := h)
   simpa using this
  ·rw [ixI_neg h] at h1; omega
theorem dup_all {α : Type} [Inhabited α] {nm : α → Str} {x : Str} {l : List α} : dup (fun j => nm l[j]!) l.length x = l.any (fun y => decide (nm y = x)) := by
 rw [dup_ix (Nat.le_refl _)]
 have := ixI_lt (g := fun y => decide (nm y = x)) (l := l)
 by_cases h : l.findIdx (fun y => decide (nm y = x)) < l.length
 ·rw [ixI_pos h] at this ⊢
  rw [dF (by omega)] at this
  rw [dT (by omega), dT (by omega)]
  cases hx : l.any (fun y => decide (nm y = x)) with
  | true => rfl
  | false => rw [hx] at this; cases this
 ·rw [ixI_neg h] at this ⊢
  cases hx : l.any (fun y => decide (nm y = x)) with
  | false => rfl
  | true => rw [hx] at this; cases this
theorem kind_eq {N : Nat} {k : Int} : f_permit_kind N k = some (okKind k) := rfl
theorem rkind_eq {N : Nat} {k : Int} : f_ref07_kind N k = some (okKind k) := rfl
section
variable {N : Nat} {p : GPermitPlan} (hp : SmP p) (hN : 1000000 ≤ N)
include hp hN
theorem cs3 : loopN (f_permit_checkSpaces_L3 N p) N (([] : List (Str × Bool)), 0) = some (errOr (.inl (seen (nmS p) p.Spaces.length)) (fun e => .inr e) (firstErr (eSp p) p.Spaces.length 0)) := by
 have hs := hp.s
 refine loop_errG (fun i => (seen (nmS p) i, (i : Int))) (fun i hi _ => ?_) (fun _ => ?_) (by omega)
 ·unfold f_permit_checkSpaces_L3 eSp
  simp only []
  rw [cmp_lss, dT (by omega), cond_true, idxB hi, bS, pname_eq (by omega), bS, seen_get, w64s (by omega), cmp_gtr]
  show (bif !isName (nmS p i) then _ else bif dup (nmS p) i (nmS p i) then _ else _) = _
  cases isName (nmS p i) with
  | false => rfl
  | true =>
   cases dup (nmS p) i (nmS p i) with
   | true => rfl
   | false =>
    by_cases h : 30 < p.Spaces[i]!.Next.length
    ·rw [dT (show (30 : Int) < (p.Spaces[i]!.Next.length : Int) by omega), if_pos h]; rfl
    ·rw [dF (show ¬ (30 : Int) < (p.Spaces[i]!.Next.length : Int) by omega), if_neg h]; rfl
 ·unfold f_permit_checkSpaces_L3
  simp only []
  rw [cmp_lss, dF (by omega), cond_false]
theorem cs1 {y : GSpace} (hy : y ∈ p.Spaces) : loopN (f_permit_checkSpaces_L1 N (seen (nmS p) p.Spaces.length) y) N 0 = some (errOr (.inl ()) (fun e => .inr e) (firstErr (eNx p y) y.Next.length 0)) := by
 have hl := hp.n y hy
 refine loop_err (fun i hi _ => ?_) (fun _ => ?_) (by omega)
 ·unfold f_permit_checkSpaces_L1 eNx
  rw [cmp_lss, dT (by omega), cond_true, idxB hi, bS, seen_get, show dup (nmS p) p.Spaces.length y.Next[i]! = hasS p y.Next[i]! from dup_all, w64s (by omega), cmpS_eql]
  cases hasS p y.Next[i]! with
  | false => rfl
  | true =>
   by_cases h : y.Next[i]! = y.Name
   ·rw [dT h, if_pos h]; rfl
   ·rw [dF h, if_neg h]; rfl
 ·unfold f_permit_checkSpaces_L1
  rw [cmp_lss, dF (by omega), cond_false]
theorem cs2 : loopN (f_permit_checkSpaces_L2 N p (seen (nmS p) p.Spaces.length)) N 0 = some (errOr (.inl ()) (fun e => .inr e) (firstErr (eNxs p) p.Spaces.length 0)) := by
 have hs := hp.s
 refine loop_err (fun i hi _ => ?_) (fun _ => ?_) (by omega)
 ·unfold f_permit_checkSpaces_L2
  rw [cmp_lss, dT (by omega), cond_true, idxB hi, bS, cs1 hp hN (mem_bang hi), w64s (by omega), bS]
  show Sum.elim _ _ (errOr _ _ (eNxs p i)) = _
  unfold errOr
  by_cases h : eNxs p i = 0
  ·rw [if_pos h, if_pos h]; rfl
  ·rw [if_neg h, if_neg h]; rfl
 ·unfold f_permit_checkSpaces_L2
  rw [cmp_lss, dF (by omega), cond_false]
theorem checkSpaces_eq : f_permit_checkSpaces N p = some (seqE (firstErr (eSp p) p.Spaces.length 0) (firstErr (eNxs p) p.Spaces.length 0)) := by
 unfold f_permit_checkSpaces
 rw [cs3 hp hN, bind_errOr, cs2 hp hN, bind_errOr]
 unfold seqE
 split
 ·split
  ·rename_i h; rw [h]
  ·rfl
 ·rfl
theorem rcs3 : loopN (f_ref07_checkSpaces_L3 N p) N 0 = some (errOr (.inl ()) (fun e => .inr e) (firstErr (eSp p) p.Spaces.length 0)) := by
 have hs := hp.s
 refine loop_err (fun i hi _ => ?_) (fun _ => ?_) (by omega)
 ·unfold f_ref07_checkSpaces_L3 eSp
  rw [cmp_lss, dT (by omega), cond_true, idxB hi, bS, IsName_eq (by omega), bS]
  have hd : f_ref07_before N p (i : Int) (nmS p i) = some (dup (nmS p) i (nmS p i)) := by
   unfold f_ref07_before
   rw [rSpace_eq (by omega) hN, bS, cmp_geq, cmp_lss]
   exact congrArg some (dup_ix (nm := GSpace.Name) (x := nmS p i) (l := p.Spaces) (Nat.le_of_lt hi)).symm
  rw [bS, show f_ref07_before N p (i : Int) p.Spaces[i]!.Name = _ from hd, bS, bS, w64s (by omega), cmp_gtr]
  show (bif !isName (nmS p i) then _ else bif dup (nmS p) i (nmS p i) then _ else _) = _
  cases isName (nmS p i) with
  | false => rfl
  | true =>
   cases dup (nmS p) i (nmS p i) with
   | true => rfl
   | false =>
    by_cases h : 30 < p.Spaces[i]!.Next.length
    ·rw [dT (show (30 : Int) < (p.Spaces[i]!.Next.length : Int) by omega), if_pos h]; rfl
    ·rw [dF (show ¬ (30 : Int) < (p.Spaces[i]!.Next.length : Int) by omega), if_neg h]; rfl
 ·unfold f_ref07_checkSpaces_L3
  rw [cmp_lss, dF (by omega), cond_false]
theorem rcs1 {i : Nat} (hi : i < p.Spaces.length) : loopN (f_ref07_checkSpaces_L1 N p (i : Int)) N 0 = some (errOr (.inl ()) (fun e => .inr e) (eNxs p i)) := by
 have hl := hp.n _ (mem_bang hi)
 have hs := hp.s
 refine loop_err (fun j hj _ => ?_) (fun _ => ?_) (by omega)
 ·unfold f_ref07_checkSpaces_L1 eNx
  rw [idxB hi, bS, cmp_lss, dT (by omega), cond_true, bS, idxB hj, bS, rSpace_eq (by omega) hN, bS, cmp_lss, ixI_lt, bS, idxB hj, bS, bS, w64s (by omega), cmpS_eql]
  show (bif !hasS p _ then _ else _) = _
  cases hasS p p.Spaces[i]!.Next[j]! with
  | false => rfl
  | true =>
   by_cases h : p.Spaces[i]!.Next[j]! = p.Spaces[i]!.Name
   ·rw [dT h, if_pos h]; rfl
   ·rw [dF h, if_neg h]; rfl
 ·unfold f_ref07_checkSpaces_L1
  rw [idxB hi, bS, cmp_lss, dF (by omega), cond_false]
theorem rcs2 : loopN (f_ref07_checkSpaces_L2 N p) N 0 = some (errOr (.inl ()) (fun e => .inr e) (firstErr (eNxs p) p.Spaces.length 0)) := by
 have hs := hp.s
 refine loop_err (fun i hi _ => ?_) (fun _ => ?_) (by omega)
 ·unfold f_ref07_checkSpaces_L2
  rw [cmp_lss, dT (by omega), cond_true, rcs1 hp hN hi, w64s (by omega), bS]
  unfold errOr
  by_cases h : eNxs p i = 0
  ·rw [if_pos h, if_pos h]; rfl
  ·rw [if_neg h, if_neg h]; rfl
 ·unfold f_ref07_checkSpaces_L2
  rw [cmp_lss, dF (by omega), cond_false]
theorem rcheckSpaces_eq : f_ref07_checkSpaces N p = some (seqE (firstErr (eSp p) p.Spaces.length 0) (firstErr (eNxs p) p.Spaces.length 0)) := by
 unfold f_ref07_checkSpaces
 rw [rcs3 hp hN, bind_errOr, rcs2 hp hN, bind_errOr]
 unfold seqE
 split
 ·split
  ·rename_i h; rw [h]
  ·rfl
 ·rfl
omit hp hN in
theorem ex_eq {a b : Bool} {r : Int} : ((((!a) || (!(bif !(!a) then b else false))) || (cmpI .lss r 0)) || (cmpI .gtr r 2)) = decide (a = false ∨ b = false ∨ r < 0 ∨ 2 < r) := by
 rw [Bool.eq_iff_iff, cmp_lss, cmp_gtr]
 cases a <;> cases b <;> simp
omit hN in
theorem exL (hN2 : p.Exclusions.length < N) : loopN (f_permit_CheckPlan_L1 N p) N 0 = some (errOr (.inl ()) (fun e => .inr e) (firstErr (eEx p) p.Exclusions.length 0)) := by
 have hs := hp.x
 refine loop_err (fun i hi _ => ?_) (fun _ => ?_) hN2
 ·unfold f_permit_CheckPlan_L1 eEx
  simp only [kind_eq]
  rw [cmp_lss, dT (by omega), cond_true, idxB hi, bS, bS, bif_none_some, bS, w64s (by omega), ex_eq]
  by_cases h : okKind p.Exclusions[i]!.A = false ∨ okKind p.Exclusions[i]!.B = false ∨ p.Exclusions[i]!.Reach < 0 ∨ 2 < p.Exclusions[i]!.Reach
  ·rw [dT h, if_pos h]; rfl
  ·rw [dF h, if_neg h]; rfl
 ·unfold f_permit_CheckPlan_L1
  rw [cmp_lss, dF (by omega), cond_false]
omit hN in
theorem rexL (hN2 : p.Exclusions.length < N) : loopN (f_ref07_CheckPlan_L4 N p) N 0 = some (errOr (.inl ()) (fun e => .inr e) (firstErr (eEx p) p.Exclusions.length 0)) := exL hp hN2
omit hp hN in
theorem rg_eq {a : Bool} {x y : Int} : ((((!a) || (cmpI .lss x 0)) || (cmpI .geq x y)) || (cmpI .gtr y 1000000)) = decide (a = false ∨ x < 0 ∨ y ≤ x ∨ 1000000 < y) := by
 rw [Bool.eq_iff_iff, cmp_lss, cmp_gtr, cmp_geq]
 cases a <;> simp [or_assoc]
theorem pm3 : loopN (f_permit_checkPermits_L3 N p) N (([] : List (Str × Bool)), 0) = some (errOr (.inl ()) (fun e => .inr e) (firstErr (ePm p) p.Permits.length 0)) := by
 have hs := hp.s
 have hm := hp.m
 refine loop_errG (fun i => (seen (nmP p) i, (i : Int))) (fun i hi _ => ?_) (fun _ => ?_) (by omega)
 ·unfold f_permit_checkPermits_L3 ePm
  simp only []
  rw [cmp_lss, dT (by omega), cond_true, idxB hi, bS, spaceOf_eq (by omega) hN, bS, pname_eq (by omega), bS, seen_get, w64s (by omega), kind_eq, bS, rg_eq, findO_snd, cmp_gtr]
  show (bif !isName (nmP p i) then _ else bif dup (nmP p) i (nmP p i) then _ else bif _ then _ else bif !hasS p p.Permits[i]!.Space then _ else _) = _
  cases isName (nmP p i) with
  | false => rfl
  | true =>
   cases dup (nmP p) i (nmP p i) with
   | true => rfl
   | false =>
    by_cases h : okKind p.Permits[i]!.Kind = false ∨ p.Permits[i]!.From < 0 ∨ p.Permits[i]!.To ≤ p.Permits[i]!.From ∨ 1000000 < p.Permits[i]!.To
    ·rw [dT h, if_pos h]; rfl
    ·rw [dF h, if_neg h]
     cases hasS p p.Permits[i]!.Space with
     | false => rfl
     | true =>
      by_cases h : 10 < p.Permits[i]!.Locks.length
      ·rw [dT (show (10 : Int) < (p.Permits[i]!.Locks.length : Int) by omega), if_pos h]; rfl
      ·rw [dF (show ¬ (10 : Int) < (p.Permits[i]!.Locks.length : Int) by omega), if_neg h]; rfl
 ·unfold f_permit_checkPermits_L3
  simp only []
  rw [cmp_lss, dF (by omega), cond_false]
theorem rpm3 : loopN (f_ref07_CheckPlan_L3 N p) N 0 = some (errOr (.inl ()) (fun e => .inr e) (firstErr (ePm p) p.Permits.length 0)) := by
 have hs := hp.s
 have hm := hp.m
 refine loop_err (fun i hi _ => ?_) (fun _ => ?_) (by omega)
 ·unfold f_ref07_CheckPlan_L3 ePm
  have hd : cmpI .lss (ixI (isP p.Permits[i]!.Name) p.Permits) (i : Int) = dup (nmP p) i (nmP p i) := by
   have h1 := dup_ix (nm := GPermit.Name) (x := nmP p i) (l := p.Permits) (Nat.le_of_lt hi)
   have h2 : (0 : Int) ≤ ixI (isP p.Permits[i]!.Name) p.Permits := by
    have := ixI_lt (g := isP p.Permits[i]!.Name) (l := p.Permits)
    have h3 : p.Permits.any (isP p.Permits[i]!.Name) = true := List.any_eq_true.2 ⟨_, mem_bang hi, by simp [isP]⟩
    rw [h3] at this
    simpa using this
   rw [cmp_lss]
   show _ = dup (fun j => p.Permits[j]!.Name) i (nmP p i)
   rw [h1]
   show _ = (decide ((0 : Int) ≤ ixI (isP p.Permits[i]!.Name) p.Permits) && decide (ixI (isP p.Permits[i]!.Name) p.Permits < (i : Int)))
   rw [dT h2, Bool.true_and]
  rw [cmp_lss, dT (by omega), cond_true, idxB hi, bS, IsName_eq (by omega), bS, rPermit_eq (by omega) hN, bS, hd, rkind_eq, bS, rg_eq, rSpace_eq (by omega) hN, bS, cmp_lss, ixI_lt, cmp_gtr, w64s (by omega)]
  show (bif !isName (nmP p i) then _ else bif dup (nmP p) i (nmP p i) then _ else bif _ then _ else bif !hasS p p.Permits[i]!.Space then _ else _) = _
  cases isName (nmP p i) with
  | false => rfl
  | true =>
   cases dup (nmP p) i (nmP p i) with
   | true => rfl
   | false =>
    by_cases h : okKind p.Permits[i]!.Kind = false ∨ p.Permits[i]!.From < 0 ∨ p.Permits[i]!.To ≤ p.Permits[i]!.From ∨ 1000000 < p.Permits[i]!.To
    ·rw [dT h, if_pos h]; rfl
    ·rw [dF h, if_neg h]
     cases hasS p p.Permits[i]!.Space with
     | false => rfl
     | true =>
      by_cases h : 10 < p.Permits[i]!.Locks.length
      ·rw [dT (show (10 : Int) < (p.Permits[i]!.Locks.length : Int) by omega), if_pos h]; rfl
      ·rw [dF (show ¬ (10 : Int) < (p.Permits[i]!.Locks.length : Int) by omega), if_neg h]; rfl
 ·unfold f_ref07_CheckPlan_L3
  rw [cmp_lss, dF (by omega), cond_false]
omit hp hN in
theorem lk_eq {a b : Int} : ((cmpI .neq a 5) || (cmpI .eql b 5)) = decide (a ≠ 5 ∨ b = 5) := by
 rw [Bool.eq_iff_iff, cmp_neq, cmp_eql]; simp
theorem lk1 {y : GPermit} (hy : y ∈ p.Permits) : loopN (f_permit_checkPermits_L1 N p y) N 0 = some (errOr (.inl ()) (fun e => .inr e) (firstErr (eLk p y) y.Locks.length 0)) := by
 have hm := hp.m
 have hl := hp.l y hy
 refine loop_err (fun i hi _ => ?_) (fun _ => ?_) (by omega)
 ·unfold f_permit_checkPermits_L1 eLk
  rw [cmp_lss, dT (by omega), cond_true, idxB hi, bS, permitOf_eq (by omega) hN, bS, findO_snd, lk_eq, w64s (by omega)]
  show (bif !hasP p y.Locks[i]! then _ else bif decide ((atP p y.Locks[i]!).Kind ≠ 5 ∨ y.Kind = 5) then _ else _) = _
  cases hasP p y.Locks[i]! with
  | false => rfl
  | true =>
   by_cases h : (atP p y.Locks[i]!).Kind ≠ 5 ∨ y.Kind = 5
   ·rw [dT h, if_pos h]; rfl
   ·rw [dF h, if_neg h]; rfl
 ·unfold f_permit_checkPermits_L1
  rw [cmp_lss, dF (by omega), cond_false]
theorem lk2 : loopN (f_permit_checkPermits_L2 N p) N 0 = some (errOr (.inl ()) (fun e => .inr e) (firstErr (eLks p) p.Permits.length 0)) := by
 have hm := hp.m
 refine loop_err (fun i hi _ => ?_) (fun _ => ?_) (by omega)
 ·unfold f_permit_checkPermits_L2
  rw [cmp_lss, dT (by omega), cond_true, idxB hi, bS, lk1 hp hN (mem_bang hi), w64s (by omega), bS]
  show Sum.elim _ _ (errOr _ _ (eLks p i)) = _
  unfold errOr
  by_cases h : eLks p i = 0
  ·rw [if_pos h, if_pos h]; rfl
  ·rw [if_neg h, if_neg h]; rfl
 ·unfold f_permit_checkPermits_L2
  rw [cmp_lss, dF (by omega), cond_false]
theorem rlk1 {y : GPermit} (hy : y ∈ p.Permits) : loopN (f_ref07_CheckPlan_L1 N p y) N 0 = some (errOr (.inl ()) (fun e => .inr e) (firstErr (eLk p y) y.Locks.length 0)) := by
 have hm := hp.m
 have hl := hp.l y hy
 refine loop_err (fun i hi _ => ?_) (fun _ => ?_) (by omega)
 ·unfold f_ref07_CheckPlan_L1 eLk
  rw [cmp_lss, dT (by omega), cond_true, idxB hi, bS, rPermit_eq (by omega) hN, bS, cmp_lss, ixI_lt, w64s (by omega)]
  show (bif !hasP p y.Locks[i]! then _ else _) = _
  cases hx : hasP p y.Locks[i]! with
  | false => rfl
  | true =>
   rw [Bool.not_true, cond_false]
   have hg : idx p.Permits (ixI (isP y.Locks[i]!) p.Permits) = some (atP p y.Locks[i]!) := by
    unfold atP findO
    rcases find_ix (g := isP y.Locks[i]!) (l := p.Permits) with ⟨_, h, h2⟩ | ⟨h, h2⟩
    ·rw [h2, ixI_pos h, idx_nat h]
    ·have := ixI_lt (g := isP y.Locks[i]!) (l := p.Permits)
     rw [show p.Permits.any (isP y.Locks[i]!) = true from hx, ixI_neg h] at this
     cases this
   rw [hg, bS, lk_eq]
   by_cases h : (atP p y.Locks[i]!).Kind ≠ 5 ∨ y.Kind = 5
   ·rw [dT h, if_pos h]; rfl
   ·rw [dF h, if_neg h]; rfl
 ·unfold f_ref07_CheckPlan_L1
  rw [cmp_lss, dF (by omega), cond_false]
theorem rlk2 : loopN (f_ref07_CheckPlan_L2 N p) N 0 = some (errOr (.inl ()) (fun e => .inr e) (firstErr (eLks p) p.Permits.length 0)) := by
 have hm := hp.m
 refine loop_err (fun i hi _ => ?_) (fun _ => ?_) (by omega)
 ·unfold f_ref07_CheckPlan_L2
  rw [cmp_lss, dT (by omega), cond_true, idxB hi, bS, rlk1 hp hN (mem_bang hi), w64s (by omega), bS]
  show Sum.elim _ _ (errOr _ _ (eLks p i)) = _
  unfold errOr
  by_cases h : eLks p i = 0
  ·rw [if_pos h, if_pos h]; rfl
  ·rw [if_neg h, if_neg h]; rfl
 ·unfold f_ref07_CheckPlan_L2
  rw [cmp_lss, dF (by omega), cond_false]
theorem checkPermits_eq : f_permit_checkPermits N p = some (seqE (firstErr (ePm p) p.Permits.length 0) (firstErr (eLks p) p.Permits.length 0)) := by
 unfold f_permit_checkPermits
 rw [pm3 hp hN, bind_errOr, lk2 hp hN, bind_errOr]
 unfold seqE
 split
 ·split
  ·rename_i h; rw [h]
  ·rfl
 ·rfl
omit hp hN in
theorem big_eq : (((cmpI .gtr (List.length p.Spaces : Int) 30) || (cmpI .gtr (List.length p.Exclusions : Int) 30)) || (cmpI .gtr (List.length p.Permits : Int) 20)) = decide (30 < p.Spaces.length ∨ 30 < p.Exclusions.length ∨ 20 < p.Permits.length) := by
 rw [Bool.eq_iff_iff]; simp only [cmp_gtr, Bool.or_eq_true, decide_eq_true_eq]; omega
omit hp hN in
theorem gas_eq {g : Int} : ((cmpI .lss g 1) || (cmpI .gtr g 10000)) = decide (g < 1 ∨ 10000 < g) := by
 rw [Bool.eq_iff_iff]; simp
theorem CheckPlan_eq : f_permit_CheckPlan N p = some (checkPlan p) := by
  have hx := hp.x
  unfold f_permit_CheckPlan checkPlan
  rw [big_eq, gas_eq]
  by_cases h : 30 < p.Spaces.length ∨ 30 < p.Exclusions.length ∨ 20 < p.Permits.length
  · rw [dT h, if_pos h]; rfl
  · rw [dF h, if_neg h, cond_false]
    by_cases h : p.GasMinutes < 1 ∨ 10000 < p.GasMinutes
    · rw [dT h, if_pos h]; rfl
    · rw [dF h, if_neg h, cond_false, checkSpaces_eq hp hN, bS, cmp_neq]
      generalize seqE (firstErr (eSp p) p.Spaces.length 0) (firstErr (eNxs p) p.Spaces.length 0) = E
      unfold seqE
      by_cases h : E = 0
      · rw [dT h, if_pos h, Bool.not_true, cond_false, exL hp (by omega), bind_errOr, checkPermits_eq hp hN]
        unfold seqE
        split
        · rfl
        · rfl
      · rw [dF h, if_neg h]; rfl
theorem rCheckPlan_eq : f_ref07_CheckPlan N p = some (checkPlan p) := by
  have hx := hp.x
  unfold f_ref07_CheckPlan checkPlan
  rw [big_eq, gas_eq]
  by_cases h : 30 < p.Spaces.length ∨ 30 < p.Exclusions.length ∨ 20 < p.Permits.length
  · rw [dT h, if_pos h]; rfl
  · rw [dF h, if_neg h, cond_false]
    by_cases h : p.GasMinutes < 1 ∨ 10000 < p.GasMinutes
    · rw [dT h, if_pos h]; rfl
    · rw [dF h, if_neg h, cond_false, rcheckSpaces_eq hp hN, bS, cmp_neq]
      generalize seqE (firstErr (eSp p) p.Spaces.length 0) (firstErr (eNxs p) p.Spaces.length 0) = E
      unfold seqE
      by_cases h : E = 0
      · rw [dT h, if_pos h, Bool.not_true, cond_false, rexL hp (by omega), bind_errOr, rpm3 hp hN, bind_errOr, rlk2 hp hN, bind_errOr]
        split
        · split
          · split
            · rename_i h1 h2 h3; rw [h3]
            · rfl
          · rfl
        · rfl
      · rw [dF h, if_neg h]; rfl
end
end Go.KB
namespace Go.KB
set_option linter.unusedVariables false
theorem great_eq {N : Nat} (p : GPermitPlan) (hN : 1000000 ≤ N) : f_law07_great N p = some true ∨ (f_law07_great N p = some false ∧ SmP p ∧ p.Spaces.length ≤ 40 ∧ p.Exclusions.length ≤ 40 ∧ p.Permits.length ≤ 30 ∧ (∀ y ∈ p.Spaces, y.Next.length ≤ 40 ∧ y.Name.length ≤ 40) ∧ ∀ y ∈ p.Permits, y.Locks.length ≤ 20 ∧ y.Name.length ≤ 40) := by
  unfold f_law07_great
  have hb : (((cmpI .gtr (List.length p.Spaces : Int) 40) || (cmpI .gtr (List.length p.Exclusions : Int) 40)) || (cmpI .gtr (List.length p.Permits : Int) 30)) = decide (40 < p.Spaces.length ∨ 40 < p.Exclusions.length ∨ 30 < p.Permits.length) := by
    rw [Bool.eq_iff_iff]; simp only [cmp_gtr, Bool.or_eq_true, decide_eq_true_eq]; omega
  rw [hb]
  by_cases h : 40 < p.Spaces.length ∨ 40 < p.Exclusions.length ∨ 30 < p.Permits.length
  · rw [dT h]; exact .inl rfl
  rw [dF h, cond_false]
  have hs : ∀ (i : Nat) (hi : i < p.Spaces.length), f_law07_great_L2 N p (i : Int) = bif (decide (40 < p.Spaces[i].Next.length) || decide (40 < p.Spaces[i].Name.length)) then some (.inr (.inr true)) else some (.inl ((i + 1 : Nat) : Int)) := by
    intro i hi
    unfold f_law07_great_L2
    rw [cmp_lss, dT (by omega), cond_true, idx_nat hi, bS, w64s (by omega)]
    simp only [cmp_gtr]
    by_cases h1 : 40 < p.Spaces[i].Next.length
    · rw [dT h1, dT (show (40 : Int) < (p.Spaces[i].Next.length : Int) by omega)]; rfl
    · rw [dF h1, dF (show ¬ (40 : Int) < (p.Spaces[i].Next.length : Int) by omega), Bool.not_false, cond_true, bS, Bool.false_or, Bool.false_or]
      by_cases h2 : 40 < p.Spaces[i].Name.length
      · rw [dT h2, dT (show (40 : Int) < (p.Spaces[i].Name.length : Int) by omega)]
      · rw [dF h2, dF (show ¬ (40 : Int) < (p.Spaces[i].Name.length : Int) by omega)]
  have hs2 : f_law07_great_L2 N p (p.Spaces.length : Int) = some (.inr (.inl ())) := by
    unfold f_law07_great_L2
    rw [cmp_lss, dF (by omega), cond_false]
  have hm : ∀ (i : Nat) (hi : i < p.Permits.length), f_law07_great_L1 N p (i : Int) = bif (decide (20 < p.Permits[i].Locks.length) || decide (40 < p.Permits[i].Name.length)) then some (.inr (.inr true)) else some (.inl ((i + 1 : Nat) : Int)) := by
    intro i hi
    unfold f_law07_great_L1
    rw [cmp_lss, dT (by omega), cond_true, idx_nat hi, bS, w64s (by omega)]
    simp only [cmp_gtr]
    by_cases h1 : 20 < p.Permits[i].Locks.length
    · rw [dT h1, dT (show (20 : Int) < (p.Permits[i].Locks.length : Int) by omega)]; rfl
    · rw [dF h1, dF (show ¬ (20 : Int) < (p.Permits[i].Locks.length : Int) by omega), Bool.not_false, cond_true, bS, Bool.false_or, Bool.false_or]
      by_cases h2 : 40 < p.Permits[i].Name.length
      · rw [dT h2, dT (show (40 : Int) < (p.Permits[i].Name.length : Int) by omega)]
      · rw [dF h2, dF (show ¬ (40 : Int) < (p.Permits[i].Name.length : Int) by omega)]
  have hm2 : f_law07_great_L1 N p (p.Permits.length : Int) = some (.inr (.inl ())) := by
    unfold f_law07_great_L1
    rw [cmp_lss, dF (by omega), cond_false]
  have e1 := loop_R (N := N) (fun i => bif (p.Spaces.drop i).any (fun y => decide (40 < y.Next.length) || decide (40 < y.Name.length)) then .inr true else .inl ()) (f := f_law07_great_L2 N p) (n := p.Spaces.length) (fun i hi => by
    rw [hs i hi]
    simp only [drop_at hi, List.any_cons]
    cases (decide (40 < p.Spaces[i].Next.length) || decide (40 < p.Spaces[i].Name.length))
    · exact .inl ⟨rfl, by simp⟩
    · exact .inr rfl) (by rw [hs2]; simp) (by omega)
  have e2 := loop_R (N := N) (fun i => bif (p.Permits.drop i).any (fun y => decide (20 < y.Locks.length) || decide (40 < y.Name.length)) then .inr true else .inl ()) (f := f_law07_great_L1 N p) (n := p.Permits.length) (fun i hi => by
    rw [hm i hi]
    simp only [drop_at hi, List.any_cons]
    cases (decide (20 < p.Permits[i].Locks.length) || decide (40 < p.Permits[i].Name.length))
    · exact .inl ⟨rfl, by simp⟩
    · exact .inr rfl) (by rw [hm2]; simp) (by omega)
  rw [e1, e2]
  simp only [List.drop_zero, bS]
  cases ha : p.Spaces.any (fun y => decide (40 < y.Next.length) || decide (40 < y.Name.length)) with
  | true => exact .inl rfl
  | false =>
    cases hc : p.Permits.any (fun y => decide (20 < y.Locks.length) || decide (40 < y.Name.length)) with
    | true => exact .inl rfl
    | false =>
      have ha' : ∀ y ∈ p.Spaces, y.Next.length ≤ 40 ∧ y.Name.length ≤ 40 := fun y hy => by
        have := List.any_eq_false.1 ha y hy
        simp only [Bool.or_eq_true, decide_eq_true_eq, not_or] at this
        omega
      have hc' : ∀ y ∈ p.Permits, y.Locks.length ≤ 20 ∧ y.Name.length ≤ 40 := fun y hy => by
        have := List.any_eq_false.1 hc y hy
        simp only [Bool.or_eq_true, decide_eq_true_eq, not_or] at this
        omega
      exact .inr ⟨rfl, ⟨by omega, by omega, by omega, fun y hy => by have := (ha' y hy).1; omega, fun y hy => by have := (hc' y hy).1; omega⟩, by omega, by omega, by omega, ha', hc'⟩
end Go.KB
