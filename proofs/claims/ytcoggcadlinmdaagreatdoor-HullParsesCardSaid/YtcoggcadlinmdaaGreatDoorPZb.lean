/- Plain laws: names. Plain laws: maps as sets of names, texts that are compared, rows of numbers that are the same. Plain laws: the errors of ships, of the program and of the reference. Plain laws: Check of the program and of the reference, copies of ships, small ships. Plain laws: copies of ships. No condition. -/
import Derived.Test.YtcoggcadlinmdaaGreatDoorPZa
import Derived.KernelRfl
namespace Go.KB
set_option linter.unusedVariables false
def qW4 (x0 : Str) (s1 : Int) : Option (Int ⊕ (Unit ⊕ Bool)) :=
 bif (jJq .lss s1 (List.length x0 : Int)) then ((idx x0 s1).bind fun v2 => bif ((!(((jJq .geq ((UInt8.toNat v2 : Nat) : Int) 97) && (jJq .leq ((UInt8.toNat v2 : Nat) : Int) 122)) || ((jJq .geq ((UInt8.toNat v2 : Nat) : Int) 65) && (jJq .leq ((UInt8.toNat v2 : Nat) : Int) 90)))) && ((jJq .eql s1 0) || ((jJq .neq ((UInt8.toNat v2 : Nat) : Int) 45) && ((jJq .lss ((UInt8.toNat v2 : Nat) : Int) 48) || (jJq .gtr ((UInt8.toNat v2 : Nat) : Int) 57))))) then (some (.inr (Sum.inr false))) else (some (.inl (IntKind.i64.wrap (s1 + 1))))) else (some (.inr (Sum.inl ())))
def qU2 (N : Nat) (x0 : Str) : Option (Bool) :=
 bif ((jJq .lss (List.length x0 : Int) 1) || (jJq .gtr (List.length x0 : Int) 12)) then (some false) else ((jQ2 (qW4 x0) N 0).bind fun o5 => Sum.elim (fun l7 => some true) (fun r8 => some r8) o5)
theorem qQ3 {N : Nat} {s : Str} (hN : 13 ≤ N) : qU2 N s = some (jYa s) := by
  unfold qU2
  by_cases hlen : s.length < 1 ∨ 12 < s.length
  · have hc : (jJq .lss (s.length : Int) 1 || jJq .gtr (s.length : Int) 12) = true := by
      simp; omega
    rw [hc, cnT]
    congr 1
    unfold jYa
    rcases hlen with h | h
    · have : s = [] := List.eq_nil_of_length_eq_zero (by omega)
      subst this; rfl
    · cases s with
      | nil => rfl
      | cons c r => simp at h; simp; intro h'; omega
  · have hc : (jJq .lss (s.length : Int) 1 || jJq .gtr (s.length : Int) 12) = false := by
      rw [Bool.or_eq_false_iff]; simp; omega
    rw [hc, cnF]
    cases s with
    | nil => simp at hlen
    | cons c r =>
      have hr : r.length < 12 := by simp at hlen; omega
      have hbad : ∀ i (hi : i < (c :: r).length), ((!(((jJq .geq ((UInt8.toNat (c :: r)[i] : Nat) : Int) 97) && (jJq .leq ((UInt8.toNat (c :: r)[i] : Nat) : Int) 122)) || ((jJq .geq ((UInt8.toNat (c :: r)[i] : Nat) : Int) 65) && (jJq .leq ((UInt8.toNat (c :: r)[i] : Nat) : Int) 90)))) && ((jJq .eql (i : Int) 0) || ((jJq .neq ((UInt8.toNat (c :: r)[i] : Nat) : Int) 45) && ((jJq .lss ((UInt8.toNat (c :: r)[i] : Nat) : Int) 48) || (jJq .gtr ((UInt8.toNat (c :: r)[i] : Nat) : Int) 57))))) =
          !(if i = 0 then jL7 (c :: r)[i] else jD5 (c :: r)[i]) := by
        intro i hi
        split
        · rename_i h0; subst h0
          simp only [jW0, Int.natCast_zero, decide_true, Bool.true_or, Bool.and_true]
          rfl
        · rename_i h0
          rw [jW0, show decide ((i : Int) = 0) = false by rw [decide_eq_false_iff_not]; omega, Bool.false_or]
          unfold jD5 jL7 chr
          simp only [jYu, jXx, jKv, jMp, jM0]
          generalize ((UInt8.toNat (c :: r)[i] : Nat) : Int) = x
          rw [Bool.eq_iff_iff]
          simp only [Bool.and_eq_true, Bool.or_eq_true, Bool.not_eq_true', Bool.or_eq_false_iff, Bool.and_eq_false_iff, decide_eq_true_eq, decide_eq_false_iff_not]
          omega
      rw [qJn (c :: r).length (if jYa (c :: r) then .inl () else .inr false) (fun i => ∀ j (h : j < (c :: r).length), j < i → (if j = 0 then jL7 (c :: r)[j] else jD5 (c :: r)[j]) = true) ?_ ?_ (fun j _ h => absurd h (Nat.not_lt_zero _)) N (by simp; omega)]
      · cases jYa (c :: r) <;> rfl
      · intro i hi hp
        unfold qW4
        rw [jXx, show decide ((i : Int) < ((c :: r).length : Int)) = true by rw [decide_eq_true_eq]; omega, cnT, jKu hi, bS, hbad i hi, jN4 (show i < 9223372036854775807 by simp at hi; omega)]
        cases hg : (if i = 0 then jL7 (c :: r)[i] else jD5 (c :: r)[i]) with
        | true =>
          refine .inl ⟨rfl, fun j hj hji => ?_⟩
          rcases Nat.lt_succ_iff_lt_or_eq.1 hji with h | rfl
          · exact hp j hj h
          · exact hg
        | false =>
          refine .inr ?_
          have : jYa (c :: r) = false := by
            rw [Bool.eq_false_iff]
            intro h
            simp only [jYa, Bool.and_eq_true, decide_eq_true_eq] at h
            obtain ⟨⟨_, h1⟩, h2⟩ := h
            rw [List.all_eq_true] at h2
            cases i with
            | zero => simp [h1] at hg
            | succ i =>
              simp at hg
              have := h2 _ (List.getElem_mem (by simpa using hi : i < r.length))
              rw [this] at hg; cases hg
          rw [this]; rfl
      · intro hp
        unfold qW4
        rw [jXx, show decide ((((c :: r).length : Nat) : Int) < ((c :: r).length : Int)) = false by simp, cnF]
        have : jYa (c :: r) = true := by
          simp only [jYa, Bool.and_eq_true, decide_eq_true_eq]
          refine ⟨⟨hr, (by have h := hp 0 (by simp) (by simp); rw [if_pos rfl] at h; exact h)⟩, ?_⟩
          rw [List.all_eq_true]
          intro x hx
          obtain ⟨j, hj, rfl⟩ := List.getElem_of_mem hx
          have := hp (j + 1) (by simp; omega) (by simp; omega)
          simpa using this
        rw [this]; rfl
theorem jAr {N : Nat} {s : Str} (hN : 13 ≤ N) : jUd N s = some (jYa s) := qQ3 hN
end Go.KB
namespace Go.KB
set_option linter.unusedVariables false
theorem jC8 {α β : Type} [DecidableEq α] (z : β) (x k : α) (y : β) : ∀ m : List (α × β), jTz z (jMh m x y) k = if k = x then y else jTz z m k
 | [] => by
  by_cases h : k = x
  ·subst h; simp [jTz, jMh]
  ·simp [jTz, jMh, h]
 | p :: r => by
  by_cases hp : x = p.1
  ·subst hp
   by_cases h : k = p.1
   ·subst h; simp [jTz, jMh]
   ·simp [jTz, jMh, h]
  ·by_cases h : k = p.1
   ·subst h; simp [jTz, jMh, hp, Ne.symm hp]
   ·simp [jTz, jMh, hp, h, jC8 z x k y r]
theorem jWc (a b : Str) : jXy .eql a b = decide (a = b) := by
 unfold jXy
 rw [Bool.eq_iff_iff]
 simp
theorem jFv (a b : Str) : jXy .neq a b = !decide (a = b) := by
 rw [← jWc]; rfl
def dup (nm : Nat → Str) : Nat → Str → Bool
 | 0, _ => false
 | i + 1, x => decide (x = nm i) || dup nm i x
def seen (nm : Nat → Str) : Nat → List (Str × Bool)
 | 0 => []
 | i + 1 => jMh (seen nm i) (nm i) true
theorem qXy (nm : Nat → Str) (x : Str) : ∀ i, jTz false (seen nm i) x = dup nm i x
 | 0 => rfl
 | i + 1 => by
  simp only [seen, dup, jC8, qXy nm x i]
  by_cases h : x = nm i <;> simp [h]
theorem qQk (nm : Nat → Str) (x : Str) : ∀ i, dup nm i x = true ↔ ∃ j, j < i ∧ nm j = x
 | 0 => by simp [dup]
 | i + 1 => by
  simp only [dup, Bool.or_eq_true, decide_eq_true_eq, qQk nm x i]
  constructor
  ·rintro (h | ⟨j, h1, h2⟩)
   ·exact ⟨i, by omega, h.symm⟩
   ·exact ⟨j, by omega, h2⟩
  ·rintro ⟨j, h1, h2⟩
   by_cases hj : j = i
   ·subst hj; exact .inl h2.symm
   ·exact .inr ⟨j, by omega, h2⟩
def same (nm : Nat → Str) (x : Str) (j : Nat) : Int := if nm j = x then 5 else 0
theorem jRe {e : Nat → Int} : ∀ {k i : Nat}, jXw e k i ≠ 0 → ∃ j, i ≤ j ∧ j < i + k ∧ jXw e k i = e j ∧ e j ≠ 0 ∧ ∀ m, i ≤ m → m < j → e m = 0 := by
 intro k
 induction k with
 | zero => intro i h; exact absurd rfl h
 | succ k ih =>
  intro i h
  by_cases h0 : e i = 0
  ·rw [jFx h0] at h ⊢
   obtain ⟨j, h1, h2, h3, h4, h5⟩ := ih h
   refine ⟨j, by omega, by omega, h3, h4, fun m hm hj => ?_⟩
   by_cases hmi : m = i
   ·subst hmi; exact h0
   ·exact h5 m (by omega) hj
  ·rw [jM8 h0]; exact ⟨i, by omega, by omega, rfl, h0, fun m hm hj => by omega⟩
theorem qK2 (nm : Nat → Str) (x : Str) (i : Nat) : jXw (same nm x) i 0 = if dup nm i x = true then 5 else 0 := by
 by_cases h : dup nm i x = true
 ·rw [if_pos h]
  obtain ⟨j, h1, h2⟩ := (qQk nm x i).1 h
  have hne : jXw (same nm x) i 0 ≠ 0 := fun e => by
   have := jUy e j (by omega) (by omega)
   unfold same at this
   rw [if_pos h2] at this
   cases this
  obtain ⟨k, _, _, h5, _⟩ := jRe hne
  rw [h5] at hne ⊢
  unfold same at hne ⊢
  split
  ·rfl
  ·rename_i hk; rw [if_neg hk] at hne; exact absurd rfl hne
 ·rw [if_neg h]
  refine Classical.byContradiction fun hne => ?_
  obtain ⟨k, _, h4, h5, _⟩ := jRe hne
  unfold same at h5
  by_cases hk : nm k = x
  ·exact h ((qQk nm x i).2 ⟨k, by omega, hk⟩)
  ·rw [if_neg hk] at h5; exact hne h5
end Go.KB
namespace Go.KB
set_option linter.unusedVariables false
set_option maxRecDepth 100000
instance : Inhabited jJv := ⟨⟨0, 0, [], []⟩⟩
instance : Inhabited jJ0 := ⟨⟨[], 0, 0, 0, 0⟩⟩
theorem qU9 {α β : Type} (f : α → β) (l : List α) (n : Int) : idx (l.map f) n = (idx l n).map f := by
 unfold idx
 split
 ·rfl
 ·rw [List.getElem?_map]
theorem qZg {N : Nat} {s : Str} : jYm N s = qW4 s := by
 funext i
 unfold jYm qW4
 rw [show (jW4 s).length = s.length by unfold jW4; rw [List.length_map]]
 unfold jW4
 rw [qU9]
 cases idx s i <;> rfl
theorem jCm {N : Nat} {s : Str} (hN : 13 ≤ N) : jYg N s = some (jYa s) := by
 rw [← qQ3 hN]
 unfold jYg qU2
 rw [qZg]
theorem jUw {N : Nat} {n lo hi : Int} : jXm N n lo hi = some (inR lo hi n) := rfl
theorem jGt {N : Nat} {n lo hi : Int} : jZn N n lo hi = some (inR lo hi n) := rfl
def jNu (t : jJv) (i : Nat) : Int := if inR 0 100000 t.Levels[i]! = true then (if 0 < i ∧ t.Levels[i]! ≤ t.Levels[i - 1]! then 10 else 0) else 2
def qZt (t : jJv) (i : Nat) : Int := if inR 0 100000 t.Halves[i]! = true then 0 else 2
def jYq (t : jJv) : Int :=
 if t.Levels.length < 2 ∨ 30 < t.Levels.length ∨ t.Halves.length + 1 ≠ t.Levels.length then 11
 else if jXw (jNu t) t.Levels.length 0 = 0 then jXw (qZt t) t.Halves.length 0 else jXw (jNu t) t.Levels.length 0
def jYb (t : jJv) : Int := if inR (-1000000) 1000000 t.X = true ∧ inR 1 100000 t.Width = true then 0 else 2
def jKd (b t : jJv) : Int := if t.X ≤ b.X then 10 else if 2 * (t.X - b.X) < t.Width + b.Width then 17 else 0
theorem qYj {N : Nat} {t : jJv} (hl : t.Levels.length < 1000000) (hN : 2 ^ 64 ≤ N) : jQ2 (jX8 N t) N 0 = some (jF3 (Sum.inl ()) (fun z => Sum.inr z) (jXw (jNu t) t.Levels.length 0)) := by
  refine jH8 (f := jX8 N t) (e := jNu t) (n := t.Levels.length) (fin := Sum.inl ()) (err := fun z => Sum.inr z) (fun i hi _ => ?_) (fun _ => ?_) (by omega)
  · unfold jX8
    simp only [jXx, jKv, jM0]
    rw [dT (by omega), cnT, qX7 hi, bS, jUw, bS, jN4 (by omega)]
    cases h1 : inR 0 100000 t.Levels[i]! with
    | false =>
      have e : jNu t i = 2 := by unfold jNu; rw [h1]; rfl
      rw [e]; rfl
    | true =>
      rw [Bool.not_true, cnF]
      by_cases h0 : i = 0
      · subst h0
        have e : jNu t 0 = 0 := by unfold jNu; rw [h1, if_pos rfl]; exact if_neg (by omega)
        rw [dF (by omega), cnF, bS, Bool.false_and, e]; rfl
      · rw [dT (by omega), cnT, idxP hi h0 hl, bS, Bool.true_and]
        by_cases hc : t.Levels[i]! ≤ t.Levels[i - 1]!
        · have e : jNu t i = 10 := by unfold jNu; rw [h1, if_pos rfl]; exact if_pos ⟨by omega, hc⟩
          rw [dT hc, e]; rfl
        · have e : jNu t i = 0 := by unfold jNu; rw [h1, if_pos rfl]; exact if_neg (fun h => hc h.2)
          rw [dF hc, e]; rfl
  · unfold jX8
    simp only [jXx]
    rw [dF (by omega)]; rfl
theorem qYk {N : Nat} {t : jJv} (hl : t.Halves.length < 1000000) (hN : 2 ^ 64 ≤ N) : jQ2 (jX7 N t) N 0 = some (jF3 (Sum.inl ()) (fun z => Sum.inr z) (jXw (qZt t) t.Halves.length 0)) := by
 refine jH8 (f := jX7 N t) (e := qZt t) (n := t.Halves.length) (fin := Sum.inl ()) (err := fun z => Sum.inr z) (fun i hi _ => ?_) (fun _ => ?_) (by omega)
 ·unfold jX7 qZt
  simp only [jXx]
  rw [dT (by omega), cnT, qX7 hi, bS, jUw, bS, jN4 (by omega)]
  cases inR 0 100000 t.Halves[i]! <;> rfl
 ·unfold jX7
  simp only [jXx]
  rw [dF (by omega)]; rfl
theorem qWy {N : Nat} {t : jJv} (hl : t.Levels.length < 1000000) (hN : 2 ^ 64 ≤ N) : jQ2 (jVr N t) N 0 = some (jF3 (Sum.inl ()) (fun z => Sum.inr z) (jXw (jNu t) t.Levels.length 0)) := by
  refine jH8 (f := jVr N t) (e := jNu t) (n := t.Levels.length) (fin := Sum.inl ()) (err := fun z => Sum.inr z) (fun i hi _ => ?_) (fun _ => ?_) (by omega)
  · unfold jVr
    simp only [jXx, jKv, jM0]
    rw [dT (by omega), cnT, qX7 hi, bS, jGt, bS, jN4 (by omega)]
    cases h1 : inR 0 100000 t.Levels[i]! with
    | false =>
      have e : jNu t i = 2 := by unfold jNu; rw [h1]; rfl
      rw [e]; rfl
    | true =>
      rw [Bool.not_true, cnF]
      by_cases h0 : i = 0
      · subst h0
        have e : jNu t 0 = 0 := by unfold jNu; rw [h1, if_pos rfl]; exact if_neg (by omega)
        rw [dF (by omega), cnF, bS, cnF, bS, Bool.false_and, e]; rfl
      · rw [dT (by omega), cnT, bS, cnT, idxP hi h0 hl, bS, Bool.true_and]
        by_cases hc : t.Levels[i]! ≤ t.Levels[i - 1]!
        · have e : jNu t i = 10 := by unfold jNu; rw [h1, if_pos rfl]; exact if_pos ⟨by omega, hc⟩
          rw [dT hc, e]; rfl
        · have e : jNu t i = 0 := by unfold jNu; rw [h1, if_pos rfl]; exact if_neg (fun h => hc h.2)
          rw [dF hc, e]; rfl
  · unfold jVr
    simp only [jXx]
    rw [dF (by omega)]; rfl
theorem qWa {N : Nat} {t : jJv} (hl : t.Halves.length < 1000000) (hN : 2 ^ 64 ≤ N) : jQ2 (jVs N t) N 0 = some (jF3 (Sum.inl ()) (fun z => Sum.inr z) (jXw (qZt t) t.Halves.length 0)) := by
 refine jH8 (f := jVs N t) (e := qZt t) (n := t.Halves.length) (fin := Sum.inl ()) (err := fun z => Sum.inr z) (fun i hi _ => ?_) (fun _ => ?_) (by omega)
 ·unfold jVs qZt
  simp only [jXx]
  rw [dT (by omega), cnT, qX7 hi, bS, jGt, bS, jN4 (by omega)]
  cases inR 0 100000 t.Halves[i]! <;> rfl
 ·unfold jVs
  simp only [jXx]
  rw [dF (by omega)]; rfl
theorem qYe {N : Nat} {t : jJv} (hl : t.Levels.length < 1000000) (hh : t.Halves.length < 1000000) (hN : 2 ^ 64 ≤ N) : jY7 N t = some (jYq t) := by
  unfold jY7
  simp only [jXx, jKv, jYu]
  rw [jPe (n := (t.Levels.length : Int) - 1) (by omega) (by omega)]
  by_cases hc : t.Levels.length < 2 ∨ 30 < t.Levels.length ∨ t.Halves.length + 1 ≠ t.Levels.length
  · have e : jYq t = 11 := by unfold jYq; exact if_pos hc
    rw [show (decide ((t.Levels.length : Int) < 2) || decide ((30 : Int) < (t.Levels.length : Int)) || !decide ((t.Halves.length : Int) = (t.Levels.length : Int) - 1)) = true by simp; omega, e]; rfl
  · have e : jYq t = if jXw (jNu t) t.Levels.length 0 = 0 then jXw (qZt t) t.Halves.length 0 else jXw (jNu t) t.Levels.length 0 := by unfold jYq; exact if_neg hc
    rw [show (decide ((t.Levels.length : Int) < 2) || decide ((30 : Int) < (t.Levels.length : Int)) || !decide ((t.Halves.length : Int) = (t.Levels.length : Int) - 1)) = false by simp; omega, cnF, qWy hl hN, bS, qWa hh hN, e]
    unfold jF3
    by_cases h1 : jXw (jNu t) t.Levels.length 0 = 0
    · rw [if_pos h1, if_pos h1, Sum.elim_inl, bS]
      by_cases h2 : jXw (qZt t) t.Halves.length 0 = 0
      · rw [if_pos h2, h2]; rfl
      · rw [if_neg h2]; rfl
    · rw [if_neg h1, if_neg h1]; rfl
theorem qK3 {N : Nat} {t : jJv} (hl : t.Levels.length < 1000000) (hh : t.Halves.length < 1000000) (hN : 2 ^ 64 ≤ N) :
    ((jXm N (List.length t.Levels : Int) 2 30).bind fun v12 => bif ((!v12) || (jJq .neq (List.length t.Halves : Int) (IntKind.i64.wrap ((List.length t.Levels : Int) - 1)))) then (some 11) else ((jQ2 (jX8 N t) N 0).bind fun o20 => Sum.elim (fun l22 => (jQ2 (jX7 N t) N 0).bind fun o29 => Sum.elim (fun l31 => some 0) (fun r32 => some r32) o29) (fun r23 => some r23) o20) : Option Int) = some (jYq t) := by
  rw [jUw, bS, jYu, jPe (n := (t.Levels.length : Int) - 1) (by omega) (by omega)]
  by_cases hc : t.Levels.length < 2 ∨ 30 < t.Levels.length ∨ t.Halves.length + 1 ≠ t.Levels.length
  · have e : jYq t = 11 := by unfold jYq; exact if_pos hc
    rw [show ((!inR 2 30 (t.Levels.length : Int)) || !decide ((t.Halves.length : Int) = (t.Levels.length : Int) - 1)) = true by simp [inR]; omega, e]; rfl
  · have e : jYq t = if jXw (jNu t) t.Levels.length 0 = 0 then jXw (qZt t) t.Halves.length 0 else jXw (jNu t) t.Levels.length 0 := by unfold jYq; exact if_neg hc
    rw [show ((!inR 2 30 (t.Levels.length : Int)) || !decide ((t.Halves.length : Int) = (t.Levels.length : Int) - 1)) = false by simp [inR]; omega, cnF, qYj hl hN, bS, qYk hh hN, e]
    unfold jF3
    by_cases h1 : jXw (jNu t) t.Levels.length 0 = 0
    · rw [if_pos h1, if_pos h1, Sum.elim_inl, bS]
      by_cases h2 : jXw (qZt t) t.Halves.length 0 = 0
      · rw [if_pos h2, h2]; rfl
      · rw [if_neg h2]; rfl
    · rw [if_neg h1, if_neg h1]; rfl
theorem jNa {t : jJv} (h : jYb t = 0) : -1000000 ≤ t.X ∧ t.X ≤ 1000000 ∧ 1 ≤ t.Width ∧ t.Width ≤ 100000 := by
 unfold jYb at h
 split at h
 ·rename_i hc; simp [inR] at hc; omega
 ·cases h
end Go.KB
namespace Go.KB
set_option linter.unusedVariables false
set_option maxRecDepth 100000
def jFd (b : Option jJv) (t : jJv) : Int :=
 if jYb t = 0 then (match b with | none => jYq t | some x => if jKd x t = 0 then jYq t else jKd x t) else jYb t
theorem jL5 (t : jJv) : jYb t = if (inR (-1000000) 1000000 t.X && inR 1 100000 t.Width) = true then 0 else 2 := by
 unfold jYb
 simp only [Bool.and_eq_true]
theorem jSl {N : Nat} {t : jJv} {b : Option jJv} (hl : t.Levels.length < 1000000) (hh : t.Halves.length < 1000000) (hb : ∀ x, b = some x → jYb x = 0) (hN : 2 ^ 64 ≤ N) : jWh N t b = some (jFd b t) := by
  unfold jWh jFd
  rw [jUw, bS, jUw]
  have hf := qK3 (t := t) hl hh hN
  cases h1 : inR (-1000000) 1000000 t.X with
  | false =>
    have e : jYb t = 2 := by rw [jL5, h1]; rfl
    rw [e]; rfl
  | true =>
    rw [Bool.not_true, Bool.not_false, cnT, bS, Bool.false_or]
    cases h2 : inR 1 100000 t.Width with
    | false =>
      have e : jYb t = 2 := by rw [jL5, h1, h2]; rfl
      rw [e]; rfl
    | true =>
      have e : jYb t = 0 := by rw [jL5, h1, h2]; rfl
      have pt := jNa e
      rw [e, if_pos rfl, Bool.not_true, cnF]
      cases b with
      | none => exact hf
      | some x =>
        have px := jNa (hb x rfl)
        simp only [Option.isSome_some, cnT, bS, jM0, jXx]
        rw [jPe (n := t.X - x.X) (by omega) (by omega), jPe (n := 2 * (t.X - x.X)) (by omega) (by omega), jPe (n := t.Width + x.Width) (by omega) (by omega)]
        by_cases h3 : t.X ≤ x.X
        · have e3 : jKd x t = 10 := by unfold jKd; exact if_pos h3
          rw [dT (by omega), e3]; rfl
        · rw [dF (by omega), cnF]
          by_cases h4 : 2 * (t.X - x.X) < t.Width + x.Width
          · have e4 : jKd x t = 17 := by unfold jKd; rw [if_neg h3]; exact if_pos h4
            rw [dT h4, e4]; rfl
          · have e4 : jKd x t = 0 := by unfold jKd; rw [if_neg h3]; exact if_neg h4
            rw [dF h4, e4, if_pos rfl]
            exact hf
def jU7 (l : List jJv) (i : Nat) : Int := jFd (if i = 0 then none else some l[i - 1]!) l[i]!
theorem qJw {l : List jJv} {i : Nat} (h : jU7 l i = 0) : jYb l[i]! = 0 := by
 unfold jU7 jFd at h
 split at h
 ·assumption
 ·exact h
def jDr (l : jJ0) (least : Int) : Int := if (inR least 1000000000 l.Mass && inR (-1000000) 1000000 l.X && inR (-100000) 100000 l.Z && inR 0 1000000000 l.Free) = true then 0 else 2
theorem qV5 {N : Nat} {l : jJ0} {least : Int} : jV3 N l least = some (jDr l least) := by
 unfold jV3 jDr
 simp only [jUw, bS]
 cases inR least 1000000000 l.Mass <;> cases inR (-1000000) 1000000 l.X <;> cases inR (-100000) 100000 l.Z <;> cases inR 0 1000000000 l.Free <;> rfl
def nmF (s : jJp) : Nat → Str
 | 0 => s.Light.Name
 | k + 1 => s.Items[k]!.Name
def jCn (s : jJp) (i : Nat) : Int := if jYa s.Items[i]!.Name = true then (if dup (nmF s) (i + 1) s.Items[i]!.Name = true then 5 else jDr s.Items[i]! 0) else 4
def jAk (s : jJp) : Int := if jYa s.Light.Name = true then (if jDr s.Light 1 = 0 then (if 60 < s.Items.length then 8 else jXw (jCn s) s.Items.length 0) else jDr s.Light 1) else 4
theorem qYu {N : Nat} {s : jJp} (hl : s.Items.length < 1000000) (hN : 2 ^ 64 ≤ N) : jW9 N s = some (jAk s) := by
  unfold jW9 jAk
  rw [jCm (by omega), bS, qV5, bS, jYu, jKv]
  cases jYa s.Light.Name with
  | false => rfl
  | true =>
    rw [Bool.not_true, cnF, if_pos rfl]
    by_cases h1 : jDr s.Light 1 = 0
    · rw [dT h1, Bool.not_true, cnF, if_pos h1]
      by_cases h2 : 60 < s.Items.length
      · rw [dT (by omega), cnT, if_pos h2]
      · rw [dF (by omega), cnF, if_neg h2]
        have := jRh (f := jZ2 N s) (e := jCn s) (N := N) (n := s.Items.length) (fin := Sum.inl ()) (err := fun z => Sum.inr z) (fun i => (seen (nmF s) (i + 1), (i : Int))) (fun i hi _ => by
          unfold jZ2
          simp only [jXx, jYu]
          rw [dT (by omega), cnT, qX7 hi, bS, jCm (by omega), bS, qXy, qV5, bS, jN4 (by omega)]
          unfold jCn
          cases jYa s.Items[i]!.Name with
          | false => rfl
          | true =>
            simp only [Bool.not_true, cnF, if_true]
            cases dup (nmF s) (i + 1) s.Items[i]!.Name with
            | true => rfl
            | false =>
              simp only [cnF, Bool.false_eq_true, if_false]
              by_cases h3 : jDr s.Items[i]! 0 = 0
              · rw [dT h3, if_pos h3]; rfl
              · rw [dF h3, if_neg h3]; rfl) (fun _ => by
          unfold jZ2
          simp only [jXx]
          rw [dF (by omega)]; rfl) (by omega)
        rw [show jQ2 (jZ2 N s) N (jMh ([] : (List (Str × Bool))) s.Light.Name true, 0) = _ from this, bS]
        unfold jF3
        by_cases hz : jXw (jCn s) s.Items.length 0 = 0
        · rw [if_pos hz, hz]; rfl
        · rw [if_neg hz]; rfl
    · rw [dF h1, if_neg h1]; rfl
theorem qXb {N : Nat} {l : jJ0} {x : List jJ0} {least : Int} (hx : x.length < 1000000) (hN : 2 ^ 64 ≤ N) :
  jW7 N l x least = some (if jYa l.Name = true then (if dup (fun j => x[j]!.Name) x.length l.Name = true then 5 else jDr l least) else 4) := by
 unfold jW7
 rw [jAr (by omega), bS]
 rw [jH8 (f := jWj N l x) (e := same (fun j => x[j]!.Name) l.Name) (n := x.length) (fin := Sum.inl ()) (err := fun z => Sum.inr 5) (fun j hj _ => by
  unfold jWj
  simp only [jXx]
  rw [dT (by omega), cnT, qX7 hj, bS, jWc, jN4 (by omega)]
  unfold same
  by_cases h : x[j]!.Name = l.Name
  ·rw [dT h, if_pos h]; rfl
  ·rw [dF h, if_neg h]; rfl) (fun _ => by
  unfold jWj
  simp only [jXx]
  rw [dF (by omega)]; rfl) (by omega), qK2, bS]
 cases jYa l.Name with
 | false => rfl
 | true =>
  rw [Bool.not_true, cnF, if_pos rfl]
  cases dup (fun j => x[j]!.Name) x.length l.Name with
  | true => rfl
  | false =>
   unfold jF3 jDr
   simp only [Bool.false_eq_true, if_false, if_true, Sum.elim_inl, jGt, bS]
   cases inR least 1000000000 l.Mass <;> cases inR (-1000000) 1000000 l.X <;> cases inR (-100000) 100000 l.Z <;> cases inR 0 1000000000 l.Free <;> rfl
def jSg (s : jJp) : Int :=
 if jYa s.Name = true then (if (inR 1 1000000 s.Length && inR 1 40 (s.Stations.length : Int)) = true then (if jXw (jU7 s.Stations) s.Stations.length 0 = 0 then jAk s else jXw (jU7 s.Stations) s.Stations.length 0) else 2) else 4
structure Tame (s : jJp) : Prop where
 st : s.Stations.length < 1000000
 it : s.Items.length < 1000000
 lv : ∀ i, i < s.Stations.length → s.Stations[i]!.Levels.length < 1000000
 hv : ∀ i, i < s.Stations.length → s.Stations[i]!.Halves.length < 1000000
 s6 : s.Stations.length ≤ 6 ∨ 40 < s.Stations.length
 l8 : ∀ i, i < s.Stations.length → s.Stations[i]!.Levels.length ≤ 8 ∨ 30 < s.Stations[i]!.Levels.length
structure qX4 (s : jJp) : Prop where
 st : s.Stations.length < 1000000
 it : s.Items.length < 1000000
 lv : ∀ i, i < s.Stations.length → s.Stations[i]!.Levels.length < 1000000
 hv : ∀ i, i < s.Stations.length → s.Stations[i]!.Halves.length < 1000000
theorem Tame.t4 {s : jJp} (h : Tame s) : qX4 s := ⟨h.st, h.it, h.lv, h.hv⟩
theorem qZd {N : Nat} {s : jJp} (ht : qX4 s) (hN : 2 ^ 64 ≤ N) : jY8 N s = some (jSg s) := by
 have h1 := ht.st
 unfold jY8 jSg
 rw [jCm (by omega), bS, jUw, bS, jUw]
 cases jYa s.Name with
 | false => rfl
 | true =>
  rw [Bool.not_true, cnF, if_pos rfl]
  cases inR 1 1000000 s.Length with
  | false => rfl
  | true =>
   rw [Bool.not_true, Bool.not_false, cnT, bS, Bool.false_or, Bool.true_and]
   cases inR 1 40 (s.Stations.length : Int) with
   | false => rfl
   | true =>
    rw [Bool.not_true, cnF, if_pos rfl]
    have := jRh (f := jWm N s) (e := jU7 s.Stations) (N := N) (n := s.Stations.length) (fin := Sum.inl ()) (err := fun z => Sum.inr z) (fun i => ((if i = 0 then none else some s.Stations[i - 1]!), (i : Int))) (fun i hi hz => by
     unfold jWm
     simp only [jXx, jYu]
     rw [dT (by omega), cnT, qX7 hi, bS, jSl (ht.lv i hi) (ht.hv i hi) (fun x hx => by
      by_cases h0 : i = 0
      ·rw [if_pos h0] at hx; cases hx
      ·rw [if_neg h0] at hx; cases hx; exact qJw (hz (i - 1) (by omega))) hN, bS, bS, jN4 (by omega)]
     rw [show jFd (if i = 0 then none else some s.Stations[i - 1]!) s.Stations[i]! = jU7 s.Stations i from rfl]
     by_cases h3 : jU7 s.Stations i = 0
     ·rw [dT h3, if_pos h3, if_neg (by omega), Nat.add_sub_cancel]; rfl
     ·rw [dF h3, if_neg h3]; rfl) (fun _ => by
     unfold jWm
     simp only [jXx]
     rw [dF (by omega)]; rfl) (by omega)
    rw [show jQ2 (jWm N s) N ((none : Option jJv), 0) = _ from this, bS, qYu ht.it hN]
    unfold jF3
    by_cases hz : jXw (jU7 s.Stations) s.Stations.length 0 = 0
    ·rw [if_pos hz, if_pos hz]; rfl
    ·rw [if_neg hz, if_neg hz]; rfl
theorem jA8 {f g : Nat → Str} {x : Str} : ∀ {n : Nat}, (∀ j, j < n → f j = g j) → dup f n x = dup g n x
 | 0, _ => rfl
 | n + 1, h => by rw [dup, dup, h n (by omega), jA8 (fun j hj => h j (by omega))]
theorem qYd {N : Nat} {t : jJv} : jWa N t = some (jYb t) := by
 unfold jWa
 rw [jGt, bS, jGt, jL5]
 cases inR (-1000000) 1000000 t.X <;> cases inR 1 100000 t.Width <;> rfl
theorem jTp {N : Nat} {s : jJp} (ht : qX4 s) (hN : 2 ^ 64 ≤ N) : jUa N s = some (jSg s) := by
  have h1 := ht.st
  have h2 := ht.it
  unfold jUa jSg
  rw [jAr (by omega), bS, jGt, bS, jGt]
  cases jYa s.Name with
  | false => rfl
  | true =>
    rw [Bool.not_true, cnF, if_pos rfl]
    cases inR 1 1000000 s.Length with
    | false => rfl
    | true =>
      rw [Bool.not_true, Bool.not_false, cnT, bS, Bool.false_or, Bool.true_and]
      cases inR 1 40 (s.Stations.length : Int) with
      | false => rfl
      | true =>
        rw [Bool.not_true, cnF, if_pos rfl]
        rw [jH8 (f := jWs N s) (e := jU7 s.Stations) (n := s.Stations.length) (fin := Sum.inl ()) (err := fun z => Sum.inr z) (fun i hi hz => by
          unfold jWs
          simp only [jXx, jYu, jKv, jM0]
          rw [dT (by omega), cnT, qX7 hi, bS, qYd, bS, qYe (ht.lv i hi) (ht.hv i hi) hN, jN4 (by omega)]
          by_cases hp : jYb s.Stations[i]! = 0
          · rw [dT hp, Bool.not_true, cnF]
            have pt := jNa hp
            have hfin : ((some (jYq s.Stations[i]!)).bind fun v10 => bif (!decide (v10 = 0)) then (some (.inr (Sum.inr v10))) else (some (.inl (((i + 1 : Nat) : Int)))) : Option (Int ⊕ (Unit ⊕ Int))) = if jYq s.Stations[i]! = 0 then some (.inl ((i + 1 : Nat) : Int)) else some (.inr (.inr (jYq s.Stations[i]!))) := by
              rw [bS]
              by_cases hf : jYq s.Stations[i]! = 0
              · rw [dT hf, if_pos hf]; rfl
              · rw [dF hf, if_neg hf]; rfl
            by_cases h0 : i = 0
            · subst h0
              have e : jU7 s.Stations 0 = jYq s.Stations[0]! := by
                unfold jU7 jFd; rw [if_pos hp]; rfl
              rw [dF (by omega)]
              simp only [cnF, bS, Bool.false_and]
              rw [e]; exact hfin
            · have px := jNa (qJw (hz (i - 1) (by omega)))
              have e : jU7 s.Stations i = if jKd s.Stations[i - 1]! s.Stations[i]! = 0 then jYq s.Stations[i]! else jKd s.Stations[i - 1]! s.Stations[i]! := by
                unfold jU7 jFd; rw [if_pos hp, if_neg h0]
              rw [dT (by omega)]
              simp only [cnT, idxP hi h0 h1, bS, Bool.true_and]
              rw [jPe (n := s.Stations[i]!.X - s.Stations[i - 1]!.X) (by omega) (by omega), jPe (n := 2 * (s.Stations[i]!.X - s.Stations[i - 1]!.X)) (by omega) (by omega), jPe (n := s.Stations[i]!.Width + s.Stations[i - 1]!.Width) (by omega) (by omega), e]
              by_cases h3 : s.Stations[i]!.X ≤ s.Stations[i - 1]!.X
              · have e3 : jKd s.Stations[i - 1]! s.Stations[i]! = 10 := by unfold jKd; exact if_pos h3
                rw [dT h3, e3]; rfl
              · rw [dF h3, cnF]
                by_cases h4 : 2 * (s.Stations[i]!.X - s.Stations[i - 1]!.X) < s.Stations[i]!.Width + s.Stations[i - 1]!.Width
                · have e4 : jKd s.Stations[i - 1]! s.Stations[i]! = 17 := by unfold jKd; rw [if_neg h3]; exact if_pos h4
                  rw [dT h4, e4]; rfl
                · have e4 : jKd s.Stations[i - 1]! s.Stations[i]! = 0 := by unfold jKd; rw [if_neg h3]; exact if_neg h4
                  rw [dF h4, e4, cnF, if_pos rfl]; exact hfin
          · have e : jU7 s.Stations i = jYb s.Stations[i]! := by unfold jU7 jFd; exact if_neg hp
            rw [dF hp, e, if_neg hp]; rfl) (fun _ => by
          unfold jWs
          simp only [jXx]
          rw [dF (by omega)]; rfl) (by omega), bS]
        unfold jF3
        by_cases hz : jXw (jU7 s.Stations) s.Stations.length 0 = 0
        · rw [if_pos hz, if_pos hz, Sum.elim_inl, qXb (by simp) hN, bS, jYu, jKv]
          unfold jAk
          cases jYa s.Light.Name with
          | false => rfl
          | true =>
            simp only [if_true, List.length_nil, dup, Bool.false_eq_true, if_false]
            by_cases h3 : jDr s.Light 1 = 0
            · rw [dT h3, Bool.not_true, cnF, if_pos h3]
              by_cases h4 : 60 < s.Items.length
              · rw [dT (by omega), cnT, if_pos h4]
              · rw [dF (by omega), cnF, if_neg h4]
                have := jRh (f := jWv N s) (e := jCn s) (N := N) (n := s.Items.length) (fin := Sum.inl ()) (err := fun z => Sum.inr z) (fun i => (s.Light :: s.Items.take i, (i : Int))) (fun i hi _ => by
                  unfold jWv
                  simp only [jXx, jYu]
                  have hd : dup (fun j => (s.Light :: s.Items.take i)[j]!.Name) (s.Light :: s.Items.take i).length s.Items[i]!.Name = dup (nmF s) (i + 1) s.Items[i]!.Name := by
                    rw [show (s.Light :: s.Items.take i).length = i + 1 by simp; omega]
                    refine jA8 fun j hj => ?_
                    cases j with
                    | zero => rfl
                    | succ j =>
                      show (s.Light :: s.Items.take i)[j + 1]!.Name = s.Items[j]!.Name
                      rw [qYm (by simp; omega), qYm (show j < s.Items.length by omega), List.getElem_cons_succ, List.getElem_take]
                  rw [dT (by omega), cnT, qX7 hi, bS, qXb (by simp; omega) hN, bS, bS, jDf (by simp; unfold lim; omega), bS, jN4 (by omega), hd]
                  rw [show (if jYa s.Items[i]!.Name = true then (if dup (nmF s) (i + 1) s.Items[i]!.Name = true then (5 : Int) else jDr s.Items[i]! 0) else 4) = jCn s i from rfl]
                  rw [List.take_succ_eq_append_getElem hi, qYm hi]
                  by_cases h5 : jCn s i = 0
                  · rw [dT h5, if_pos h5]; rfl
                  · rw [dF h5, if_neg h5]; rfl) (fun _ => by
                  unfold jWv
                  simp only [jXx]
                  rw [dF (by omega)]; rfl) (by omega)
                rw [show jQ2 (jWv N s) N ([s.Light], 0) = _ from this, bS]
                unfold jF3
                by_cases hy : jXw (jCn s) s.Items.length 0 = 0
                · rw [if_pos hy, hy]; rfl
                · rw [if_neg hy]; rfl
            · rw [dF h3, if_neg h3]; rfl
        · rw [if_neg hz, if_neg hz]; rfl
theorem qZp : jBq (2 ^ 70) = some true := by kernel_rfl
end Go.KB
namespace Go.KB
set_option linter.unusedVariables false
end Go.KB
