/- Plain laws: names. Plain laws: maps as sets of names, texts that are compared, rows of numbers that are the same. Plain laws: the errors of ships, of the program and of the reference. Plain laws: Check of the program and of the reference, copies of ships, small ships. Plain laws: copies of ships. No condition. -/
import Derived.Test.YtoiefhkiipolmaaGreatPZa
import Derived.KernelRfl
namespace Go.KB
set_option linter.unusedVariables false
def qKp (x0 : Str) (s1 : Int) : Option (Int ⊕ (Unit ⊕ Bool)) :=
 bif (jJj .lss s1 (List.length x0 : Int)) then ((idx x0 s1).bind fun v2 => bif ((!(((jJj .geq ((UInt8.toNat v2 : Nat) : Int) 97) && (jJj .leq ((UInt8.toNat v2 : Nat) : Int) 122)) || ((jJj .geq ((UInt8.toNat v2 : Nat) : Int) 65) && (jJj .leq ((UInt8.toNat v2 : Nat) : Int) 90)))) && ((jJj .eql s1 0) || ((jJj .neq ((UInt8.toNat v2 : Nat) : Int) 45) && ((jJj .lss ((UInt8.toNat v2 : Nat) : Int) 48) || (jJj .gtr ((UInt8.toNat v2 : Nat) : Int) 57))))) then (some (.inr (Sum.inr false))) else (some (.inl (IntKind.i64.wrap (s1 + 1))))) else (some (.inr (Sum.inl ())))
def qDu (N : Nat) (x0 : Str) : Option (Bool) :=
 bif ((jJj .lss (List.length x0 : Int) 1) || (jJj .gtr (List.length x0 : Int) 12)) then (some false) else ((jQ7 (qKp x0) N 0).bind fun o5 => Sum.elim (fun l7 => some true) (fun r8 => some r8) o5)
theorem qVp {N : Nat} {s : Str} (hN : 13 ≤ N) : qDu N s = some (jHq s) := by
  unfold qDu
  by_cases hlen : s.length < 1 ∨ 12 < s.length
  · have hc : (jJj .lss (s.length : Int) 1 || jJj .gtr (s.length : Int) 12) = true := by
      simp; omega
    rw [hc, cnT]
    congr 1
    unfold jHq
    rcases hlen with h | h
    · have : s = [] := List.eq_nil_of_length_eq_zero (by omega)
      subst this; rfl
    · cases s with
      | nil => rfl
      | cons c r => simp at h; simp; intro h'; omega
  · have hc : (jJj .lss (s.length : Int) 1 || jJj .gtr (s.length : Int) 12) = false := by
      rw [Bool.or_eq_false_iff]; simp; omega
    rw [hc, cnF]
    cases s with
    | nil => simp at hlen
    | cons c r =>
      have hr : r.length < 12 := by simp at hlen; omega
      have hbad : ∀ i (hi : i < (c :: r).length), ((!(((jJj .geq ((UInt8.toNat (c :: r)[i] : Nat) : Int) 97) && (jJj .leq ((UInt8.toNat (c :: r)[i] : Nat) : Int) 122)) || ((jJj .geq ((UInt8.toNat (c :: r)[i] : Nat) : Int) 65) && (jJj .leq ((UInt8.toNat (c :: r)[i] : Nat) : Int) 90)))) && ((jJj .eql (i : Int) 0) || ((jJj .neq ((UInt8.toNat (c :: r)[i] : Nat) : Int) 45) && ((jJj .lss ((UInt8.toNat (c :: r)[i] : Nat) : Int) 48) || (jJj .gtr ((UInt8.toNat (c :: r)[i] : Nat) : Int) 57))))) =
          !(if i = 0 then jN2 (c :: r)[i] else jLt (c :: r)[i]) := by
        intro i hi
        split
        · rename_i h0; subst h0
          simp only [jHd, Int.natCast_zero, decide_true, Bool.true_or, Bool.and_true]
          rfl
        · rename_i h0
          rw [jHd, show decide ((i : Int) = 0) = false by rw [decide_eq_false_iff_not]; omega, Bool.false_or]
          unfold jLt jN2 chr
          simp only [jV4, jQy, jVm, jFs, jD2]
          generalize ((UInt8.toNat (c :: r)[i] : Nat) : Int) = x
          rw [Bool.eq_iff_iff]
          simp only [Bool.and_eq_true, Bool.or_eq_true, Bool.not_eq_true', Bool.or_eq_false_iff, Bool.and_eq_false_iff, decide_eq_true_eq, decide_eq_false_iff_not]
          omega
      rw [jPr (c :: r).length (if jHq (c :: r) then .inl () else .inr false) (fun i => ∀ j (h : j < (c :: r).length), j < i → (if j = 0 then jN2 (c :: r)[j] else jLt (c :: r)[j]) = true) ?_ ?_ (fun j _ h => absurd h (Nat.not_lt_zero _)) N (by simp; omega)]
      · cases jHq (c :: r) <;> rfl
      · intro i hi hp
        unfold qKp
        rw [jQy, show decide ((i : Int) < ((c :: r).length : Int)) = true by rw [decide_eq_true_eq]; omega, cnT, jH1 hi, bS, hbad i hi, jLn (show i < 9223372036854775807 by simp at hi; omega)]
        cases hg : (if i = 0 then jN2 (c :: r)[i] else jLt (c :: r)[i]) with
        | true =>
          refine .inl ⟨rfl, fun j hj hji => ?_⟩
          rcases Nat.lt_succ_iff_lt_or_eq.1 hji with h | rfl
          · exact hp j hj h
          · exact hg
        | false =>
          refine .inr ?_
          have : jHq (c :: r) = false := by
            rw [Bool.eq_false_iff]
            intro h
            simp only [jHq, Bool.and_eq_true, decide_eq_true_eq] at h
            obtain ⟨⟨_, h1⟩, h2⟩ := h
            rw [List.all_eq_true] at h2
            cases i with
            | zero => simp [h1] at hg
            | succ i =>
              simp at hg
              have := h2 _ (List.getElem_mem (by simpa using hi : i < r.length))
              rw [this] at hg; cases hg
          rw [this]; rfl
      · intro hp
        unfold qKp
        rw [jQy, show decide ((((c :: r).length : Nat) : Int) < ((c :: r).length : Int)) = false by simp, cnF]
        have : jHq (c :: r) = true := by
          simp only [jHq, Bool.and_eq_true, decide_eq_true_eq]
          refine ⟨⟨hr, (by have h := hp 0 (by simp) (by simp); rw [if_pos rfl] at h; exact h)⟩, ?_⟩
          rw [List.all_eq_true]
          intro x hx
          obtain ⟨j, hj, rfl⟩ := List.getElem_of_mem hx
          have := hp (j + 1) (by simp; omega) (by simp; omega)
          simpa using this
        rw [this]; rfl
theorem qQa {N : Nat} {s : Str} (hN : 13 ≤ N) : jBl N s = some (jHq s) := qVp hN
end Go.KB
namespace Go.KB
set_option linter.unusedVariables false
theorem qQ2 {α β : Type} [DecidableEq α] (z : β) (x k : α) (y : β) : ∀ m : List (α × β), jNu z (jFy m x y) k = if k = x then y else jNu z m k
 | [] => by
  by_cases h : k = x
  ·subst h; simp [jNu, jFy]
  ·simp [jNu, jFy, h]
 | p :: r => by
  by_cases hp : x = p.1
  ·subst hp
   by_cases h : k = p.1
   ·subst h; simp [jNu, jFy]
   ·simp [jNu, jFy, h]
  ·by_cases h : k = p.1
   ·subst h; simp [jNu, jFy, hp, Ne.symm hp]
   ·simp [jNu, jFy, hp, h, qQ2 z x k y r]
theorem qGh (a b : Str) : qBx .eql a b = decide (a = b) := by
 unfold qBx
 rw [Bool.eq_iff_iff]
 simp
def dup (nm : Nat → Str) : Nat → Str → Bool
 | 0, _ => false
 | i + 1, x => decide (x = nm i) || dup nm i x
def seen (nm : Nat → Str) : Nat → List (Str × Bool)
 | 0 => []
 | i + 1 => jFy (seen nm i) (nm i) true
theorem qV5 (nm : Nat → Str) (x : Str) : ∀ i, jNu false (seen nm i) x = dup nm i x
 | 0 => rfl
 | i + 1 => by
  simp only [seen, dup, qQ2, qV5 nm x i]
  by_cases h : x = nm i <;> simp [h]
theorem qX6 (nm : Nat → Str) (x : Str) : ∀ i, dup nm i x = true ↔ ∃ j, j < i ∧ nm j = x
 | 0 => by simp [dup]
 | i + 1 => by
  simp only [dup, Bool.or_eq_true, decide_eq_true_eq, qX6 nm x i]
  constructor
  ·rintro (h | ⟨j, h1, h2⟩)
   ·exact ⟨i, by omega, h.symm⟩
   ·exact ⟨j, by omega, h2⟩
  ·rintro ⟨j, h1, h2⟩
   by_cases hj : j = i
   ·subst hj; exact .inl h2.symm
   ·exact .inr ⟨j, by omega, h2⟩
def same (nm : Nat → Str) (x : Str) (j : Nat) : Int := if nm j = x then 5 else 0
theorem jCc {e : Nat → Int} : ∀ {k i : Nat}, jXw e k i ≠ 0 → ∃ j, i ≤ j ∧ j < i + k ∧ jXw e k i = e j ∧ e j ≠ 0 ∧ ∀ m, i ≤ m → m < j → e m = 0 := by
 intro k
 induction k with
 | zero => intro i h; exact absurd rfl h
 | succ k ih =>
  intro i h
  by_cases h0 : e i = 0
  ·rw [jMd h0] at h ⊢
   obtain ⟨j, h1, h2, h3, h4, h5⟩ := ih h
   refine ⟨j, by omega, by omega, h3, h4, fun m hm hj => ?_⟩
   by_cases hmi : m = i
   ·subst hmi; exact h0
   ·exact h5 m (by omega) hj
  ·rw [jPa h0]; exact ⟨i, by omega, by omega, rfl, h0, fun m hm hj => by omega⟩
theorem qGq (nm : Nat → Str) (x : Str) (i : Nat) : jXw (same nm x) i 0 = if dup nm i x = true then 5 else 0 := by
 by_cases h : dup nm i x = true
 ·rw [if_pos h]
  obtain ⟨j, h1, h2⟩ := (qX6 nm x i).1 h
  have hne : jXw (same nm x) i 0 ≠ 0 := fun e => by
   have := jGn e j (by omega) (by omega)
   unfold same at this
   rw [if_pos h2] at this
   cases this
  obtain ⟨k, _, _, h5, _⟩ := jCc hne
  rw [h5] at hne ⊢
  unfold same at hne ⊢
  split
  ·rfl
  ·rename_i hk; rw [if_neg hk] at hne; exact absurd rfl hne
 ·rw [if_neg h]
  refine Classical.byContradiction fun hne => ?_
  obtain ⟨k, _, h4, h5, _⟩ := jCc hne
  unfold same at h5
  by_cases hk : nm k = x
  ·exact h ((qX6 nm x i).2 ⟨k, by omega, hk⟩)
  ·rw [if_neg hk] at h5; exact hne h5
end Go.KB
namespace Go.KB
set_option linter.unusedVariables false
set_option maxRecDepth 100000
instance : Inhabited jJu := ⟨⟨0, 0, [], []⟩⟩
instance : Inhabited jQ2 := ⟨⟨[], 0, 0, 0, 0⟩⟩
theorem qDm {α β : Type} (f : α → β) (l : List α) (n : Int) : idx (l.map f) n = (idx l n).map f := by
 unfold idx
 split
 ·rfl
 ·rw [List.getElem?_map]
theorem qWl {N : Nat} {s : Str} : jUu N s = qKp s := by
 funext i
 unfold jUu qKp
 rw [show (jKf s).length = s.length by unfold jKf; rw [List.length_map]]
 unfold jKf
 rw [qDm]
 cases idx s i <;> rfl
theorem qJ4 {N : Nat} {s : Str} (hN : 13 ≤ N) : jUk N s = some (jHq s) := by
 rw [← qVp hN]
 unfold jUk qDu
 rw [qWl]
theorem jGb {N : Nat} {n lo hi : Int} : jX0 N n lo hi = some (inR lo hi n) := rfl
theorem jHh {N : Nat} {n lo hi : Int} : jZf N n lo hi = some (inR lo hi n) := rfl
def jP5 (t : jJu) (i : Nat) : Int := if inR 0 100000 t.Levels[i]! = true then (if 0 < i ∧ t.Levels[i]! ≤ t.Levels[i - 1]! then 10 else 0) else 2
def qYk (t : jJu) (i : Nat) : Int := if inR 0 100000 t.Halves[i]! = true then 0 else 2
def jKx (t : jJu) : Int :=
 if t.Levels.length < 2 ∨ 30 < t.Levels.length ∨ t.Halves.length + 1 ≠ t.Levels.length then 11
 else if jXw (jP5 t) t.Levels.length 0 = 0 then jXw (qYk t) t.Halves.length 0 else jXw (jP5 t) t.Levels.length 0
def jKj (t : jJu) : Int := if inR (-1000000) 1000000 t.X = true ∧ inR 1 100000 t.Width = true then 0 else 2
def jGa (b t : jJu) : Int := if t.X ≤ b.X then 10 else if 2 * (t.X - b.X) < t.Width + b.Width then 17 else 0
theorem qYb {N : Nat} {t : jJu} (hl : t.Levels.length < 1000000) (hN : 2 ^ 64 ≤ N) : jQ7 (jZk N t) N 0 = some (jLs (Sum.inl ()) (fun z => Sum.inr z) (jXw (jP5 t) t.Levels.length 0)) := by
  refine jF8 (f := jZk N t) (e := jP5 t) (n := t.Levels.length) (fin := Sum.inl ()) (err := fun z => Sum.inr z) (fun i hi _ => ?_) (fun _ => ?_) (by omega)
  · unfold jZk
    simp only [jQy, jVm, jD2]
    rw [dT (by omega), cnT, jP3 hi, bS, jGb, bS, jLn (by omega)]
    cases h1 : inR 0 100000 t.Levels[i]! with
    | false =>
      have e : jP5 t i = 2 := by unfold jP5; rw [h1]; rfl
      rw [e]; rfl
    | true =>
      rw [Bool.not_true, cnF]
      by_cases h0 : i = 0
      · subst h0
        have e : jP5 t 0 = 0 := by unfold jP5; rw [h1, if_pos rfl]; exact if_neg (by omega)
        rw [dF (by omega), cnF, bS, Bool.false_and, e]; rfl
      · rw [dT (by omega), cnT, idxP hi h0 hl, bS, Bool.true_and]
        by_cases hc : t.Levels[i]! ≤ t.Levels[i - 1]!
        · have e : jP5 t i = 10 := by unfold jP5; rw [h1, if_pos rfl]; exact if_pos ⟨by omega, hc⟩
          rw [dT hc, e]; rfl
        · have e : jP5 t i = 0 := by unfold jP5; rw [h1, if_pos rfl]; exact if_neg (fun h => hc h.2)
          rw [dF hc, e]; rfl
  · unfold jZk
    simp only [jQy]
    rw [dF (by omega)]; rfl
theorem qUg {N : Nat} {t : jJu} (hl : t.Halves.length < 1000000) (hN : 2 ^ 64 ≤ N) : jQ7 (jZv N t) N 0 = some (jLs (Sum.inl ()) (fun z => Sum.inr z) (jXw (qYk t) t.Halves.length 0)) := by
 refine jF8 (f := jZv N t) (e := qYk t) (n := t.Halves.length) (fin := Sum.inl ()) (err := fun z => Sum.inr z) (fun i hi _ => ?_) (fun _ => ?_) (by omega)
 ·unfold jZv qYk
  simp only [jQy]
  rw [dT (by omega), cnT, jP3 hi, bS, jGb, bS, jLn (by omega)]
  cases inR 0 100000 t.Halves[i]! <;> rfl
 ·unfold jZv
  simp only [jQy]
  rw [dF (by omega)]; rfl
theorem qUq {N : Nat} {t : jJu} (hl : t.Levels.length < 1000000) (hN : 2 ^ 64 ≤ N) : jQ7 (jVe N t) N 0 = some (jLs (Sum.inl ()) (fun z => Sum.inr z) (jXw (jP5 t) t.Levels.length 0)) := by
  refine jF8 (f := jVe N t) (e := jP5 t) (n := t.Levels.length) (fin := Sum.inl ()) (err := fun z => Sum.inr z) (fun i hi _ => ?_) (fun _ => ?_) (by omega)
  · unfold jVe
    simp only [jQy, jVm, jD2]
    rw [dT (by omega), cnT, jP3 hi, bS, jHh, bS, jLn (by omega)]
    cases h1 : inR 0 100000 t.Levels[i]! with
    | false =>
      have e : jP5 t i = 2 := by unfold jP5; rw [h1]; rfl
      rw [e]; rfl
    | true =>
      rw [Bool.not_true, cnF]
      by_cases h0 : i = 0
      · subst h0
        have e : jP5 t 0 = 0 := by unfold jP5; rw [h1, if_pos rfl]; exact if_neg (by omega)
        rw [dF (by omega), cnF, bS, cnF, bS, Bool.false_and, e]; rfl
      · rw [dT (by omega), cnT, bS, cnT, idxP hi h0 hl, bS, Bool.true_and]
        by_cases hc : t.Levels[i]! ≤ t.Levels[i - 1]!
        · have e : jP5 t i = 10 := by unfold jP5; rw [h1, if_pos rfl]; exact if_pos ⟨by omega, hc⟩
          rw [dT hc, e]; rfl
        · have e : jP5 t i = 0 := by unfold jP5; rw [h1, if_pos rfl]; exact if_neg (fun h => hc h.2)
          rw [dF hc, e]; rfl
  · unfold jVe
    simp only [jQy]
    rw [dF (by omega)]; rfl
theorem qUk {N : Nat} {t : jJu} (hl : t.Halves.length < 1000000) (hN : 2 ^ 64 ≤ N) : jQ7 (jV0 N t) N 0 = some (jLs (Sum.inl ()) (fun z => Sum.inr z) (jXw (qYk t) t.Halves.length 0)) := by
 refine jF8 (f := jV0 N t) (e := qYk t) (n := t.Halves.length) (fin := Sum.inl ()) (err := fun z => Sum.inr z) (fun i hi _ => ?_) (fun _ => ?_) (by omega)
 ·unfold jV0 qYk
  simp only [jQy]
  rw [dT (by omega), cnT, jP3 hi, bS, jHh, bS, jLn (by omega)]
  cases inR 0 100000 t.Halves[i]! <;> rfl
 ·unfold jV0
  simp only [jQy]
  rw [dF (by omega)]; rfl
theorem qGa {N : Nat} {t : jJu} (hl : t.Levels.length < 1000000) (hh : t.Halves.length < 1000000) (hN : 2 ^ 64 ≤ N) : jGz N t = some (jKx t) := by
  unfold jGz
  simp only [jQy, jVm, jV4]
  rw [jHv (n := (t.Levels.length : Int) - 1) (by omega) (by omega)]
  by_cases hc : t.Levels.length < 2 ∨ 30 < t.Levels.length ∨ t.Halves.length + 1 ≠ t.Levels.length
  · have e : jKx t = 11 := by unfold jKx; exact if_pos hc
    rw [show (decide ((t.Levels.length : Int) < 2) || decide ((30 : Int) < (t.Levels.length : Int)) || !decide ((t.Halves.length : Int) = (t.Levels.length : Int) - 1)) = true by simp; omega, e]; rfl
  · have e : jKx t = if jXw (jP5 t) t.Levels.length 0 = 0 then jXw (qYk t) t.Halves.length 0 else jXw (jP5 t) t.Levels.length 0 := by unfold jKx; exact if_neg hc
    rw [show (decide ((t.Levels.length : Int) < 2) || decide ((30 : Int) < (t.Levels.length : Int)) || !decide ((t.Halves.length : Int) = (t.Levels.length : Int) - 1)) = false by simp; omega, cnF, qUq hl hN, bS, qUk hh hN, e]
    unfold jLs
    by_cases h1 : jXw (jP5 t) t.Levels.length 0 = 0
    · rw [if_pos h1, if_pos h1, Sum.elim_inl, bS]
      by_cases h2 : jXw (qYk t) t.Halves.length 0 = 0
      · rw [if_pos h2, h2]; rfl
      · rw [if_neg h2]; rfl
    · rw [if_neg h1, if_neg h1]; rfl
theorem qHh {N : Nat} {t : jJu} (hl : t.Levels.length < 1000000) (hh : t.Halves.length < 1000000) (hN : 2 ^ 64 ≤ N) :
    ((jX0 N (List.length t.Levels : Int) 2 30).bind fun v12 => bif ((!v12) || (jJj .neq (List.length t.Halves : Int) (IntKind.i64.wrap ((List.length t.Levels : Int) - 1)))) then (some 11) else ((jQ7 (jZk N t) N 0).bind fun o20 => Sum.elim (fun l22 => (jQ7 (jZv N t) N 0).bind fun o29 => Sum.elim (fun l31 => some 0) (fun r32 => some r32) o29) (fun r23 => some r23) o20) : Option Int) = some (jKx t) := by
  rw [jGb, bS, jV4, jHv (n := (t.Levels.length : Int) - 1) (by omega) (by omega)]
  by_cases hc : t.Levels.length < 2 ∨ 30 < t.Levels.length ∨ t.Halves.length + 1 ≠ t.Levels.length
  · have e : jKx t = 11 := by unfold jKx; exact if_pos hc
    rw [show ((!inR 2 30 (t.Levels.length : Int)) || !decide ((t.Halves.length : Int) = (t.Levels.length : Int) - 1)) = true by simp [inR]; omega, e]; rfl
  · have e : jKx t = if jXw (jP5 t) t.Levels.length 0 = 0 then jXw (qYk t) t.Halves.length 0 else jXw (jP5 t) t.Levels.length 0 := by unfold jKx; exact if_neg hc
    rw [show ((!inR 2 30 (t.Levels.length : Int)) || !decide ((t.Halves.length : Int) = (t.Levels.length : Int) - 1)) = false by simp [inR]; omega, cnF, qYb hl hN, bS, qUg hh hN, e]
    unfold jLs
    by_cases h1 : jXw (jP5 t) t.Levels.length 0 = 0
    · rw [if_pos h1, if_pos h1, Sum.elim_inl, bS]
      by_cases h2 : jXw (qYk t) t.Halves.length 0 = 0
      · rw [if_pos h2, h2]; rfl
      · rw [if_neg h2]; rfl
    · rw [if_neg h1, if_neg h1]; rfl
theorem jTv {t : jJu} (h : jKj t = 0) : -1000000 ≤ t.X ∧ t.X ≤ 1000000 ∧ 1 ≤ t.Width ∧ t.Width ≤ 100000 := by
 unfold jKj at h
 split at h
 ·rename_i hc; simp [inR] at hc; omega
 ·cases h
end Go.KB
namespace Go.KB
set_option linter.unusedVariables false
set_option maxRecDepth 100000
def jMf (b : Option jJu) (t : jJu) : Int :=
 if jKj t = 0 then (match b with | none => jKx t | some x => if jGa x t = 0 then jKx t else jGa x t) else jKj t
theorem jN3 (t : jJu) : jKj t = if (inR (-1000000) 1000000 t.X && inR 1 100000 t.Width) = true then 0 else 2 := by
 unfold jKj
 simp only [Bool.and_eq_true]
theorem jTg {N : Nat} {t : jJu} {b : Option jJu} (hl : t.Levels.length < 1000000) (hh : t.Halves.length < 1000000) (hb : ∀ x, b = some x → jKj x = 0) (hN : 2 ^ 64 ≤ N) : jYy N t b = some (jMf b t) := by
  unfold jYy jMf
  rw [jGb, bS, jGb]
  have hf := qHh (t := t) hl hh hN
  cases h1 : inR (-1000000) 1000000 t.X with
  | false =>
    have e : jKj t = 2 := by rw [jN3, h1]; rfl
    rw [e]; rfl
  | true =>
    rw [Bool.not_true, Bool.not_false, cnT, bS, Bool.false_or]
    cases h2 : inR 1 100000 t.Width with
    | false =>
      have e : jKj t = 2 := by rw [jN3, h1, h2]; rfl
      rw [e]; rfl
    | true =>
      have e : jKj t = 0 := by rw [jN3, h1, h2]; rfl
      have pt := jTv e
      rw [e, if_pos rfl, Bool.not_true, cnF]
      cases b with
      | none => exact hf
      | some x =>
        have px := jTv (hb x rfl)
        simp only [Option.isSome_some, cnT, bS, jD2, jQy]
        rw [jHv (n := t.X - x.X) (by omega) (by omega), jHv (n := 2 * (t.X - x.X)) (by omega) (by omega), jHv (n := t.Width + x.Width) (by omega) (by omega)]
        by_cases h3 : t.X ≤ x.X
        · have e3 : jGa x t = 10 := by unfold jGa; exact if_pos h3
          rw [dT (by omega), e3]; rfl
        · rw [dF (by omega), cnF]
          by_cases h4 : 2 * (t.X - x.X) < t.Width + x.Width
          · have e4 : jGa x t = 17 := by unfold jGa; rw [if_neg h3]; exact if_pos h4
            rw [dT h4, e4]; rfl
          · have e4 : jGa x t = 0 := by unfold jGa; rw [if_neg h3]; exact if_neg h4
            rw [dF h4, e4, if_pos rfl]
            exact hf
def jBe (l : List jJu) (i : Nat) : Int := jMf (if i = 0 then none else some l[i - 1]!) l[i]!
theorem qXf {l : List jJu} {i : Nat} (h : jBe l i = 0) : jKj l[i]! = 0 := by
 unfold jBe jMf at h
 split at h
 ·assumption
 ·exact h
def jL0 (l : jQ2) (least : Int) : Int := if (inR least 1000000000 l.Mass && inR (-1000000) 1000000 l.X && inR (-100000) 100000 l.Z && inR 0 1000000000 l.Free) = true then 0 else 2
theorem qKz {N : Nat} {l : jQ2} {least : Int} : jV7 N l least = some (jL0 l least) := by
 unfold jV7 jL0
 simp only [jGb, bS]
 cases inR least 1000000000 l.Mass <;> cases inR (-1000000) 1000000 l.X <;> cases inR (-100000) 100000 l.Z <;> cases inR 0 1000000000 l.Free <;> rfl
def nmF (s : GShip) : Nat → Str
 | 0 => s.Light.Name
 | k + 1 => s.Items[k]!.Name
def qQx (s : GShip) (i : Nat) : Int := if jHq s.Items[i]!.Name = true then (if dup (nmF s) (i + 1) s.Items[i]!.Name = true then 5 else jL0 s.Items[i]! 0) else 4
def jRq (s : GShip) : Int := if jHq s.Light.Name = true then (if jL0 s.Light 1 = 0 then (if 60 < s.Items.length then 8 else jXw (qQx s) s.Items.length 0) else jL0 s.Light 1) else 4
theorem qYh {N : Nat} {s : GShip} (hl : s.Items.length < 1000000) (hN : 2 ^ 64 ≤ N) : jKt N s = some (jRq s) := by
  unfold jKt jRq
  rw [qJ4 (by omega), bS, qKz, bS, jV4, jVm]
  cases jHq s.Light.Name with
  | false => rfl
  | true =>
    rw [Bool.not_true, cnF, if_pos rfl]
    by_cases h1 : jL0 s.Light 1 = 0
    · rw [dT h1, Bool.not_true, cnF, if_pos h1]
      by_cases h2 : 60 < s.Items.length
      · rw [dT (by omega), cnT, if_pos h2]
      · rw [dF (by omega), cnF, if_neg h2]
        have := jNb (f := jZ9 N s) (e := qQx s) (N := N) (n := s.Items.length) (fin := Sum.inl ()) (err := fun z => Sum.inr z) (fun i => (seen (nmF s) (i + 1), (i : Int))) (fun i hi _ => by
          unfold jZ9
          simp only [jQy, jV4]
          rw [dT (by omega), cnT, jP3 hi, bS, qJ4 (by omega), bS, qV5, qKz, bS, jLn (by omega)]
          unfold qQx
          cases jHq s.Items[i]!.Name with
          | false => rfl
          | true =>
            simp only [Bool.not_true, cnF, if_true]
            cases dup (nmF s) (i + 1) s.Items[i]!.Name with
            | true => rfl
            | false =>
              simp only [cnF, Bool.false_eq_true, if_false]
              by_cases h3 : jL0 s.Items[i]! 0 = 0
              · rw [dT h3, if_pos h3]; rfl
              · rw [dF h3, if_neg h3]; rfl) (fun _ => by
          unfold jZ9
          simp only [jQy]
          rw [dF (by omega)]; rfl) (by omega)
        rw [show jQ7 (jZ9 N s) N (jFy ([] : (List (Str × Bool))) s.Light.Name true, 0) = _ from this, bS]
        unfold jLs
        by_cases hz : jXw (qQx s) s.Items.length 0 = 0
        · rw [if_pos hz, hz]; rfl
        · rw [if_neg hz]; rfl
    · rw [dF h1, if_neg h1]; rfl
theorem qWv {N : Nat} {l : jQ2} {x : List jQ2} {least : Int} (hx : x.length < 1000000) (hN : 2 ^ 64 ≤ N) :
  jK3 N l x least = some (if jHq l.Name = true then (if dup (fun j => x[j]!.Name) x.length l.Name = true then 5 else jL0 l least) else 4) := by
 unfold jK3
 rw [qQa (by omega), bS]
 rw [jF8 (f := jWe N l x) (e := same (fun j => x[j]!.Name) l.Name) (n := x.length) (fin := Sum.inl ()) (err := fun z => Sum.inr 5) (fun j hj _ => by
  unfold jWe
  simp only [jQy]
  rw [dT (by omega), cnT, jP3 hj, bS, qGh, jLn (by omega)]
  unfold same
  by_cases h : x[j]!.Name = l.Name
  ·rw [dT h, if_pos h]; rfl
  ·rw [dF h, if_neg h]; rfl) (fun _ => by
  unfold jWe
  simp only [jQy]
  rw [dF (by omega)]; rfl) (by omega), qGq, bS]
 cases jHq l.Name with
 | false => rfl
 | true =>
  rw [Bool.not_true, cnF, if_pos rfl]
  cases dup (fun j => x[j]!.Name) x.length l.Name with
  | true => rfl
  | false =>
   unfold jLs jL0
   simp only [Bool.false_eq_true, if_false, if_true, Sum.elim_inl, jHh, bS]
   cases inR least 1000000000 l.Mass <;> cases inR (-1000000) 1000000 l.X <;> cases inR (-100000) 100000 l.Z <;> cases inR 0 1000000000 l.Free <;> rfl
def jMr (s : GShip) : Int :=
 if jHq s.Name = true then (if (inR 1 1000000 s.Length && inR 1 40 (s.Stations.length : Int)) = true then (if jXw (jBe s.Stations) s.Stations.length 0 = 0 then jRq s else jXw (jBe s.Stations) s.Stations.length 0) else 2) else 4
structure Tame (s : GShip) : Prop where
 st : s.Stations.length < 1000000
 it : s.Items.length < 1000000
 lv : ∀ i, i < s.Stations.length → s.Stations[i]!.Levels.length < 1000000
 hv : ∀ i, i < s.Stations.length → s.Stations[i]!.Halves.length < 1000000
 s6 : s.Stations.length ≤ 6 ∨ 40 < s.Stations.length
 l8 : ∀ i, i < s.Stations.length → s.Stations[i]!.Levels.length ≤ 8 ∨ 30 < s.Stations[i]!.Levels.length
theorem jCk {N : Nat} {s : GShip} (ht : Tame s) (hN : 2 ^ 64 ≤ N) : jHl N s = some (jMr s) := by
 have h1 := ht.st
 unfold jHl jMr
 rw [qJ4 (by omega), bS, jGb, bS, jGb]
 cases jHq s.Name with
 | false => rfl
 | true =>
  rw [Bool.not_true, cnF, if_pos rfl]
  cases inR 1 1000000 s.Length with
  | false => rfl
  | true =>
   rw [Bool.not_true, Bool.not_false, cnT, bS, Bool.false_or, Bool.true_and]
   cases inR 1 40 (s.Stations.length : Int) with
   | false => rfl
   | true =>
    rw [Bool.not_true, cnF, if_pos rfl]
    have := jNb (f := jYf N s) (e := jBe s.Stations) (N := N) (n := s.Stations.length) (fin := Sum.inl ()) (err := fun z => Sum.inr z) (fun i => ((if i = 0 then none else some s.Stations[i - 1]!), (i : Int))) (fun i hi hz => by
     unfold jYf
     simp only [jQy, jV4]
     rw [dT (by omega), cnT, jP3 hi, bS, jTg (ht.lv i hi) (ht.hv i hi) (fun x hx => by
      by_cases h0 : i = 0
      ·rw [if_pos h0] at hx; cases hx
      ·rw [if_neg h0] at hx; cases hx; exact qXf (hz (i - 1) (by omega))) hN, bS, bS, jLn (by omega)]
     rw [show jMf (if i = 0 then none else some s.Stations[i - 1]!) s.Stations[i]! = jBe s.Stations i from rfl]
     by_cases h3 : jBe s.Stations i = 0
     ·rw [dT h3, if_pos h3, if_neg (by omega), Nat.add_sub_cancel]; rfl
     ·rw [dF h3, if_neg h3]; rfl) (fun _ => by
     unfold jYf
     simp only [jQy]
     rw [dF (by omega)]; rfl) (by omega)
    rw [show jQ7 (jYf N s) N ((none : Option jJu), 0) = _ from this, bS, qYh ht.it hN]
    unfold jLs
    by_cases hz : jXw (jBe s.Stations) s.Stations.length 0 = 0
    ·rw [if_pos hz, if_pos hz]; rfl
    ·rw [if_neg hz, if_neg hz]; rfl
theorem qQ3 {f g : Nat → Str} {x : Str} : ∀ {n : Nat}, (∀ j, j < n → f j = g j) → dup f n x = dup g n x
 | 0, _ => rfl
 | n + 1, h => by rw [dup, dup, h n (by omega), qQ3 (fun j hj => h j (by omega))]
theorem qUv {N : Nat} {t : jJu} : jY6 N t = some (jKj t) := by
 unfold jY6
 rw [jHh, bS, jHh, jN3]
 cases inR (-1000000) 1000000 t.X <;> cases inR 1 100000 t.Width <;> rfl
theorem jCp {N : Nat} {s : GShip} (ht : Tame s) (hN : 2 ^ 64 ≤ N) : jBd N s = some (jMr s) := by
  have h1 := ht.st
  have h2 := ht.it
  unfold jBd jMr
  rw [qQa (by omega), bS, jHh, bS, jHh]
  cases jHq s.Name with
  | false => rfl
  | true =>
    rw [Bool.not_true, cnF, if_pos rfl]
    cases inR 1 1000000 s.Length with
    | false => rfl
    | true =>
      rw [Bool.not_true, Bool.not_false, cnT, bS, Bool.false_or, Bool.true_and]
      cases inR 1 40 (s.Stations.length : Int) with
      | false => rfl
      | true =>
        rw [Bool.not_true, cnF, if_pos rfl]
        rw [jF8 (f := jYe N s) (e := jBe s.Stations) (n := s.Stations.length) (fin := Sum.inl ()) (err := fun z => Sum.inr z) (fun i hi hz => by
          unfold jYe
          simp only [jQy, jV4, jVm, jD2]
          rw [dT (by omega), cnT, jP3 hi, bS, qUv, bS, qGa (ht.lv i hi) (ht.hv i hi) hN, jLn (by omega)]
          by_cases hp : jKj s.Stations[i]! = 0
          · rw [dT hp, Bool.not_true, cnF]
            have pt := jTv hp
            have hfin : ((some (jKx s.Stations[i]!)).bind fun v10 => bif (!decide (v10 = 0)) then (some (.inr (Sum.inr v10))) else (some (.inl (((i + 1 : Nat) : Int)))) : Option (Int ⊕ (Unit ⊕ Int))) = if jKx s.Stations[i]! = 0 then some (.inl ((i + 1 : Nat) : Int)) else some (.inr (.inr (jKx s.Stations[i]!))) := by
              rw [bS]
              by_cases hf : jKx s.Stations[i]! = 0
              · rw [dT hf, if_pos hf]; rfl
              · rw [dF hf, if_neg hf]; rfl
            by_cases h0 : i = 0
            · subst h0
              have e : jBe s.Stations 0 = jKx s.Stations[0]! := by
                unfold jBe jMf; rw [if_pos hp]; rfl
              rw [dF (by omega)]
              simp only [cnF, bS, Bool.false_and]
              rw [e]; exact hfin
            · have px := jTv (qXf (hz (i - 1) (by omega)))
              have e : jBe s.Stations i = if jGa s.Stations[i - 1]! s.Stations[i]! = 0 then jKx s.Stations[i]! else jGa s.Stations[i - 1]! s.Stations[i]! := by
                unfold jBe jMf; rw [if_pos hp, if_neg h0]
              rw [dT (by omega)]
              simp only [cnT, idxP hi h0 h1, bS, Bool.true_and]
              rw [jHv (n := s.Stations[i]!.X - s.Stations[i - 1]!.X) (by omega) (by omega), jHv (n := 2 * (s.Stations[i]!.X - s.Stations[i - 1]!.X)) (by omega) (by omega), jHv (n := s.Stations[i]!.Width + s.Stations[i - 1]!.Width) (by omega) (by omega), e]
              by_cases h3 : s.Stations[i]!.X ≤ s.Stations[i - 1]!.X
              · have e3 : jGa s.Stations[i - 1]! s.Stations[i]! = 10 := by unfold jGa; exact if_pos h3
                rw [dT h3, e3]; rfl
              · rw [dF h3, cnF]
                by_cases h4 : 2 * (s.Stations[i]!.X - s.Stations[i - 1]!.X) < s.Stations[i]!.Width + s.Stations[i - 1]!.Width
                · have e4 : jGa s.Stations[i - 1]! s.Stations[i]! = 17 := by unfold jGa; rw [if_neg h3]; exact if_pos h4
                  rw [dT h4, e4]; rfl
                · have e4 : jGa s.Stations[i - 1]! s.Stations[i]! = 0 := by unfold jGa; rw [if_neg h3]; exact if_neg h4
                  rw [dF h4, e4, cnF, if_pos rfl]; exact hfin
          · have e : jBe s.Stations i = jKj s.Stations[i]! := by unfold jBe jMf; exact if_neg hp
            rw [dF hp, e, if_neg hp]; rfl) (fun _ => by
          unfold jYe
          simp only [jQy]
          rw [dF (by omega)]; rfl) (by omega), bS]
        unfold jLs
        by_cases hz : jXw (jBe s.Stations) s.Stations.length 0 = 0
        · rw [if_pos hz, if_pos hz, Sum.elim_inl, qWv (by simp) hN, bS, jV4, jVm]
          unfold jRq
          cases jHq s.Light.Name with
          | false => rfl
          | true =>
            simp only [if_true, List.length_nil, dup, Bool.false_eq_true, if_false]
            by_cases h3 : jL0 s.Light 1 = 0
            · rw [dT h3, Bool.not_true, cnF, if_pos h3]
              by_cases h4 : 60 < s.Items.length
              · rw [dT (by omega), cnT, if_pos h4]
              · rw [dF (by omega), cnF, if_neg h4]
                have := jNb (f := jW6 N s) (e := qQx s) (N := N) (n := s.Items.length) (fin := Sum.inl ()) (err := fun z => Sum.inr z) (fun i => (s.Light :: s.Items.take i, (i : Int))) (fun i hi _ => by
                  unfold jW6
                  simp only [jQy, jV4]
                  have hd : dup (fun j => (s.Light :: s.Items.take i)[j]!.Name) (s.Light :: s.Items.take i).length s.Items[i]!.Name = dup (nmF s) (i + 1) s.Items[i]!.Name := by
                    rw [show (s.Light :: s.Items.take i).length = i + 1 by simp; omega]
                    refine qQ3 fun j hj => ?_
                    cases j with
                    | zero => rfl
                    | succ j =>
                      show (s.Light :: s.Items.take i)[j + 1]!.Name = s.Items[j]!.Name
                      rw [qXt (by simp; omega), qXt (show j < s.Items.length by omega), List.getElem_cons_succ, List.getElem_take]
                  rw [dT (by omega), cnT, jP3 hi, bS, qWv (by simp; omega) hN, bS, bS, jK8 (by simp; unfold lim; omega), bS, jLn (by omega), hd]
                  rw [show (if jHq s.Items[i]!.Name = true then (if dup (nmF s) (i + 1) s.Items[i]!.Name = true then (5 : Int) else jL0 s.Items[i]! 0) else 4) = qQx s i from rfl]
                  rw [List.take_succ_eq_append_getElem hi, qXt hi]
                  by_cases h5 : qQx s i = 0
                  · rw [dT h5, if_pos h5]; rfl
                  · rw [dF h5, if_neg h5]; rfl) (fun _ => by
                  unfold jW6
                  simp only [jQy]
                  rw [dF (by omega)]; rfl) (by omega)
                rw [show jQ7 (jW6 N s) N ([s.Light], 0) = _ from this, bS]
                unfold jLs
                by_cases hy : jXw (qQx s) s.Items.length 0 = 0
                · rw [if_pos hy, hy]; rfl
                · rw [if_neg hy]; rfl
            · rw [dF h3, if_neg h3]; rfl
        · rw [if_neg hz, if_neg hz]; rfl
def smE (l : List jJu) (i : Nat) : Int := if (((decide ((8 : Int) < (l[i]!.Levels.length : Int)) && decide ((l[i]!.Levels.length : Int) ≤ 30)) || decide ((40 : Int) < (l[i]!.Levels.length : Int))) || decide ((40 : Int) < (l[i]!.Halves.length : Int))) = true then 1 else 0
def smI2 (l : List jQ2) (i : Nat) : Int := if decide ((40 : Int) < (l[i]!.Name.length : Int)) = true then 1 else 0
theorem qG7 {N : Nat} {s : GShip} (hN : 2 ^ 64 ≤ N) : ∃ b, jBp N s = some b ∧ (b = true → Tame s) := by
 unfold jBp
 simp only [jVm, jD2]
 generalize hc : (decide ((40 : Int) < (s.Name.length : Int)) || decide ((40 : Int) < (s.Light.Name.length : Int)) || (decide ((6 : Int) < (s.Stations.length : Int)) && decide ((s.Stations.length : Int) ≤ 40)) || decide ((45 : Int) < (s.Stations.length : Int)) || (decide ((8 : Int) < (s.Items.length : Int)) && decide ((s.Items.length : Int) ≤ 60)) || decide ((205 : Int) < (s.Items.length : Int))) = c
 cases c with
 | true => exact ⟨false, rfl, fun h => by cases h⟩
 | false =>
  simp only [Bool.or_eq_false_iff, Bool.and_eq_false_iff, decide_eq_false_iff_not] at hc
  have h1 : s.Stations.length ≤ 45 := by omega
  have h2 : s.Items.length ≤ 205 := by omega
  rw [cnF, jF8 (f := jY0 N s) (e := smE s.Stations) (n := s.Stations.length) (fin := Sum.inl ()) (err := fun z => Sum.inr false) (fun i hi _ => by
   unfold jY0
   simp only [jQy, jVm, jD2]
   rw [dT (by omega), cnT, jP3 hi, bS, jLn (by omega)]
   unfold smE
   generalize (((decide ((8 : Int) < (s.Stations[i]!.Levels.length : Int)) && decide ((s.Stations[i]!.Levels.length : Int) ≤ 30)) || decide ((40 : Int) < (s.Stations[i]!.Levels.length : Int))) || decide ((40 : Int) < (s.Stations[i]!.Halves.length : Int))) = b
   cases b <;> rfl) (fun _ => by
   unfold jY0
   simp only [jQy]
   rw [dF (by omega)]; rfl) (by omega), bS]
  unfold jLs
  by_cases hz : jXw (smE s.Stations) s.Stations.length 0 = 0
  ·rw [if_pos hz, Sum.elim_inl, jF8 (f := jYc N s) (e := smI2 s.Items) (n := s.Items.length) (fin := Sum.inl ()) (err := fun z => Sum.inr false) (fun i hi _ => by
    unfold jYc
    simp only [jQy, jVm]
    rw [dT (by omega), cnT, jP3 hi, bS, jLn (by omega)]
    unfold smI2
    generalize decide ((40 : Int) < (s.Items[i]!.Name.length : Int)) = b
    cases b <;> rfl) (fun _ => by
    unfold jYc
    simp only [jQy]
    rw [dF (by omega)]; rfl) (by omega), bS]
   unfold jLs
   have hs : ∀ i, i < s.Stations.length → (s.Stations[i]!.Levels.length ≤ 8 ∨ 30 < s.Stations[i]!.Levels.length) ∧ s.Stations[i]!.Levels.length ≤ 40 ∧ s.Stations[i]!.Halves.length ≤ 40 := fun i hi => by
    have := jGn hz i (by omega) (by omega)
    unfold smE at this
    split at this
    ·cases this
    ·rename_i hn
     simp only [Bool.or_eq_true, Bool.and_eq_true, decide_eq_true_eq, not_or] at hn
     omega
   by_cases hy : jXw (smI2 s.Items) s.Items.length 0 = 0
   ·rw [if_pos hy]
    exact ⟨true, rfl, fun _ => ⟨by omega, by omega, fun i hi => by have := hs i hi; omega, fun i hi => by have := hs i hi; omega, by omega, fun i hi => (hs i hi).1⟩⟩
   ·rw [if_neg hy]; exact ⟨false, rfl, fun h => by cases h⟩
  ·rw [if_neg hz]; exact ⟨false, rfl, fun h => by cases h⟩
theorem qW3 : jFj (2 ^ 70) = some true := by kernel_rfl
end Go.KB
namespace Go.KB
set_option linter.unusedVariables false
theorem qUy {N : Nat} {s : GShip} (ht : Tame s) (hN : 2 ^ 64 ≤ N) : jKy N s = some s := by
 have h1 := ht.st
 have h2 := ht.it
 have happ : ∀ x : List Int, x.length < 1000000 → jK2 N x = some x := fun x hx => by
  unfold jK2
  rw [jK8 (by simp; unfold lim; omega)]; rfl
 unfold jKy
 rw [jK8 (by simp; unfold lim; omega), bS, List.nil_append]
 have := jNb (f := jWy N s) (e := fun _ => 0) (N := N) (n := s.Stations.length) (fin := s) (err := fun _ => s) (fun i => (({ s with Stations := s.Stations.take i } : GShip), (i : Int))) (fun i hi _ => by
  unfold jWy
  simp only [jQy]
  rw [dT (by omega), cnT, jP3 hi, bS, happ _ (ht.lv i hi), bS, happ _ (ht.hv i hi), bS, jK8 (by simp; unfold lim; omega), bS, jLn (by omega), List.take_succ_eq_append_getElem hi, qXt hi]
  rfl) (fun _ => by
  unfold jWy
  simp only [jQy]
  rw [dF (by omega), List.take_length]; rfl) (by omega)
 rw [jSl] at this
 rw [show jQ7 (jWy N s) N (({ ({ s with Stations := ([] : (List jJu)) } : GShip) with Items := s.Items } : GShip), 0) = _ from this]; rfl
end Go.KB
