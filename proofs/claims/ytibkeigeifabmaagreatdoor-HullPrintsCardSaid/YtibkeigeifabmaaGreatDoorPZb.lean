/- Plain laws: names. Plain laws: maps as sets of names, texts that are compared, rows of numbers that are the same. Plain laws: the errors of ships, of the program and of the reference. Plain laws: Check of the program and of the reference, copies of ships, small ships. Plain laws: copies of ships. No condition. -/
import Derived.Test.YtibkeigeifabmaaGreatDoorPZa
import Derived.KernelRfl
namespace Go.KB
set_option linter.unusedVariables false
def qW1 (x0 : Str) (s1 : Int) : Option (Int ⊕ (Unit ⊕ Bool)) :=
 bif (jJq .lss s1 (List.length x0 : Int)) then ((idx x0 s1).bind fun v2 => bif ((!(((jJq .geq ((UInt8.toNat v2 : Nat) : Int) 97) && (jJq .leq ((UInt8.toNat v2 : Nat) : Int) 122)) || ((jJq .geq ((UInt8.toNat v2 : Nat) : Int) 65) && (jJq .leq ((UInt8.toNat v2 : Nat) : Int) 90)))) && ((jJq .eql s1 0) || ((jJq .neq ((UInt8.toNat v2 : Nat) : Int) 45) && ((jJq .lss ((UInt8.toNat v2 : Nat) : Int) 48) || (jJq .gtr ((UInt8.toNat v2 : Nat) : Int) 57))))) then (some (.inr (Sum.inr false))) else (some (.inl (IntKind.i64.wrap (s1 + 1))))) else (some (.inr (Sum.inl ())))
def qHk (N : Nat) (x0 : Str) : Option (Bool) :=
 bif ((jJq .lss (List.length x0 : Int) 1) || (jJq .gtr (List.length x0 : Int) 12)) then (some false) else ((jQ1 (qW1 x0) N 0).bind fun o5 => Sum.elim (fun l7 => some true) (fun r8 => some r8) o5)
theorem qX3 {N : Nat} {s : Str} (hN : 13 ≤ N) : qHk N s = some (jW3 s) := by
  unfold qHk
  by_cases hlen : s.length < 1 ∨ 12 < s.length
  · have hc : (jJq .lss (s.length : Int) 1 || jJq .gtr (s.length : Int) 12) = true := by
      simp; omega
    rw [hc, cnT]
    congr 1
    unfold jW3
    rcases hlen with h | h
    · have : s = [] := List.eq_nil_of_length_eq_zero (by omega)
      subst this; rfl
    · cases s with
      | nil => rfl
      | cons c r => simp at h; simp; intro h'; omega
  · have hc : (jJq .lss (s.length : Int) 1 || jJq .gtr (s.length : Int) 12) = false := by
      rw [Bool.or_eq_false_iff]; simp; omega
    rw [hc, cnF]
    cases s with
    | nil => simp at hlen
    | cons c r =>
      have hr : r.length < 12 := by simp at hlen; omega
      have hbad : ∀ i (hi : i < (c :: r).length), ((!(((jJq .geq ((UInt8.toNat (c :: r)[i] : Nat) : Int) 97) && (jJq .leq ((UInt8.toNat (c :: r)[i] : Nat) : Int) 122)) || ((jJq .geq ((UInt8.toNat (c :: r)[i] : Nat) : Int) 65) && (jJq .leq ((UInt8.toNat (c :: r)[i] : Nat) : Int) 90)))) && ((jJq .eql (i : Int) 0) || ((jJq .neq ((UInt8.toNat (c :: r)[i] : Nat) : Int) 45) && ((jJq .lss ((UInt8.toNat (c :: r)[i] : Nat) : Int) 48) || (jJq .gtr ((UInt8.toNat (c :: r)[i] : Nat) : Int) 57))))) =
          !(if i = 0 then jDf (c :: r)[i] else jUd (c :: r)[i]) := by
        intro i hi
        split
        · rename_i h0; subst h0
          simp only [jU3, Int.natCast_zero, decide_true, Bool.true_or, Bool.and_true]
          rfl
        · rename_i h0
          rw [jU3, show decide ((i : Int) = 0) = false by rw [decide_eq_false_iff_not]; omega, Bool.false_or]
          unfold jUd jDf chr
          simp only [jYp, jQe, jKp, jR2, jL8]
          generalize ((UInt8.toNat (c :: r)[i] : Nat) : Int) = x
          rw [Bool.eq_iff_iff]
          simp only [Bool.and_eq_true, Bool.or_eq_true, Bool.not_eq_true', Bool.or_eq_false_iff, Bool.and_eq_false_iff, decide_eq_true_eq, decide_eq_false_iff_not]
          omega
      rw [qQd (c :: r).length (if jW3 (c :: r) then .inl () else .inr false) (fun i => ∀ j (h : j < (c :: r).length), j < i → (if j = 0 then jDf (c :: r)[j] else jUd (c :: r)[j]) = true) ?_ ?_ (fun j _ h => absurd h (Nat.not_lt_zero _)) N (by simp; omega)]
      · cases jW3 (c :: r) <;> rfl
      · intro i hi hp
        unfold qW1
        rw [jQe, show decide ((i : Int) < ((c :: r).length : Int)) = true by rw [decide_eq_true_eq]; omega, cnT, jKa hi, bS, hbad i hi, jN9 (show i < 9223372036854775807 by simp at hi; omega)]
        cases hg : (if i = 0 then jDf (c :: r)[i] else jUd (c :: r)[i]) with
        | true =>
          refine .inl ⟨rfl, fun j hj hji => ?_⟩
          rcases Nat.lt_succ_iff_lt_or_eq.1 hji with h | rfl
          · exact hp j hj h
          · exact hg
        | false =>
          refine .inr ?_
          have : jW3 (c :: r) = false := by
            rw [Bool.eq_false_iff]
            intro h
            simp only [jW3, Bool.and_eq_true, decide_eq_true_eq] at h
            obtain ⟨⟨_, h1⟩, h2⟩ := h
            rw [List.all_eq_true] at h2
            cases i with
            | zero => simp [h1] at hg
            | succ i =>
              simp at hg
              have := h2 _ (List.getElem_mem (by simpa using hi : i < r.length))
              rw [this] at hg; cases hg
          rw [this]; rfl
      · intro hp
        unfold qW1
        rw [jQe, show decide ((((c :: r).length : Nat) : Int) < ((c :: r).length : Int)) = false by simp, cnF]
        have : jW3 (c :: r) = true := by
          simp only [jW3, Bool.and_eq_true, decide_eq_true_eq]
          refine ⟨⟨hr, (by have h := hp 0 (by simp) (by simp); rw [if_pos rfl] at h; exact h)⟩, ?_⟩
          rw [List.all_eq_true]
          intro x hx
          obtain ⟨j, hj, rfl⟩ := List.getElem_of_mem hx
          have := hp (j + 1) (by simp; omega) (by simp; omega)
          simpa using this
        rw [this]; rfl
theorem jA0 {N : Nat} {s : Str} (hN : 13 ≤ N) : jU9 N s = some (jW3 s) := qX3 hN
end Go.KB
namespace Go.KB
set_option linter.unusedVariables false
theorem jAr {α β : Type} [DecidableEq α] (z : β) (x k : α) (y : β) : ∀ m : List (α × β), jTn z (jM0 m x y) k = if k = x then y else jTn z m k
 | [] => by
  by_cases h : k = x
  ·subst h; simp [jTn, jM0]
  ·simp [jTn, jM0, h]
 | p :: r => by
  by_cases hp : x = p.1
  ·subst hp
   by_cases h : k = p.1
   ·subst h; simp [jTn, jM0]
   ·simp [jTn, jM0, h]
  ·by_cases h : k = p.1
   ·subst h; simp [jTn, jM0, hp, Ne.symm hp]
   ·simp [jTn, jM0, hp, h, jAr z x k y r]
theorem jDl (a b : Str) : jZ1 .eql a b = decide (a = b) := by
 unfold jZ1
 rw [Bool.eq_iff_iff]
 simp
theorem jRb (a b : Str) : jZ1 .neq a b = !decide (a = b) := by
 rw [← jDl]; rfl
def dup (nm : Nat → Str) : Nat → Str → Bool
 | 0, _ => false
 | i + 1, x => decide (x = nm i) || dup nm i x
def seen (nm : Nat → Str) : Nat → List (Str × Bool)
 | 0 => []
 | i + 1 => jM0 (seen nm i) (nm i) true
theorem qQ7 (nm : Nat → Str) (x : Str) : ∀ i, jTn false (seen nm i) x = dup nm i x
 | 0 => rfl
 | i + 1 => by
  simp only [seen, dup, jAr, qQ7 nm x i]
  by_cases h : x = nm i <;> simp [h]
theorem qQl (nm : Nat → Str) (x : Str) : ∀ i, dup nm i x = true ↔ ∃ j, j < i ∧ nm j = x
 | 0 => by simp [dup]
 | i + 1 => by
  simp only [dup, Bool.or_eq_true, decide_eq_true_eq, qQl nm x i]
  constructor
  ·rintro (h | ⟨j, h1, h2⟩)
   ·exact ⟨i, by omega, h.symm⟩
   ·exact ⟨j, by omega, h2⟩
  ·rintro ⟨j, h1, h2⟩
   by_cases hj : j = i
   ·subst hj; exact .inl h2.symm
   ·exact .inr ⟨j, by omega, h2⟩
def same (nm : Nat → Str) (x : Str) (j : Nat) : Int := if nm j = x then 5 else 0
theorem jS3 {e : Nat → Int} : ∀ {k i : Nat}, jXw e k i ≠ 0 → ∃ j, i ≤ j ∧ j < i + k ∧ jXw e k i = e j ∧ e j ≠ 0 ∧ ∀ m, i ≤ m → m < j → e m = 0 := by
 intro k
 induction k with
 | zero => intro i h; exact absurd rfl h
 | succ k ih =>
  intro i h
  by_cases h0 : e i = 0
  ·rw [jF3 h0] at h ⊢
   obtain ⟨j, h1, h2, h3, h4, h5⟩ := ih h
   refine ⟨j, by omega, by omega, h3, h4, fun m hm hj => ?_⟩
   by_cases hmi : m = i
   ·subst hmi; exact h0
   ·exact h5 m (by omega) hj
  ·rw [jM8 h0]; exact ⟨i, by omega, by omega, rfl, h0, fun m hm hj => by omega⟩
theorem qKe (nm : Nat → Str) (x : Str) (i : Nat) : jXw (same nm x) i 0 = if dup nm i x = true then 5 else 0 := by
 by_cases h : dup nm i x = true
 ·rw [if_pos h]
  obtain ⟨j, h1, h2⟩ := (qQl nm x i).1 h
  have hne : jXw (same nm x) i 0 ≠ 0 := fun e => by
   have := jKm e j (by omega) (by omega)
   unfold same at this
   rw [if_pos h2] at this
   cases this
  obtain ⟨k, _, _, h5, _⟩ := jS3 hne
  rw [h5] at hne ⊢
  unfold same at hne ⊢
  split
  ·rfl
  ·rename_i hk; rw [if_neg hk] at hne; exact absurd rfl hne
 ·rw [if_neg h]
  refine Classical.byContradiction fun hne => ?_
  obtain ⟨k, _, h4, h5, _⟩ := jS3 hne
  unfold same at h5
  by_cases hk : nm k = x
  ·exact h ((qQl nm x i).2 ⟨k, by omega, hk⟩)
  ·rw [if_neg hk] at h5; exact hne h5
end Go.KB
namespace Go.KB
set_option linter.unusedVariables false
set_option maxRecDepth 100000
instance : Inhabited jJv := ⟨⟨0, 0, [], []⟩⟩
instance : Inhabited jJc := ⟨⟨[], 0, 0, 0, 0⟩⟩
theorem qHp {α β : Type} (f : α → β) (l : List α) (n : Int) : idx (l.map f) n = (idx l n).map f := by
 unfold idx
 split
 ·rfl
 ·rw [List.getElem?_map]
theorem qX9 {N : Nat} {s : Str} : jY2 N s = qW1 s := by
 funext i
 unfold jY2 qW1
 rw [show (jYv s).length = s.length by unfold jYv; rw [List.length_map]]
 unfold jYv
 rw [qHp]
 cases idx s i <;> rfl
theorem jCy {N : Nat} {s : Str} (hN : 13 ≤ N) : jYc N s = some (jW3 s) := by
 rw [← qX3 hN]
 unfold jYc qHk
 rw [qX9]
theorem jUk {N : Nat} {n lo hi : Int} : jXm N n lo hi = some (inR lo hi n) := rfl
theorem jGt {N : Nat} {n lo hi : Int} : jZg N n lo hi = some (inR lo hi n) := rfl
def jNa (t : jJv) (i : Nat) : Int := if inR 0 100000 t.Levels[i]! = true then (if 0 < i ∧ t.Levels[i]! ≤ t.Levels[i - 1]! then 10 else 0) else 2
def qVk (t : jJv) (i : Nat) : Int := if inR 0 100000 t.Halves[i]! = true then 0 else 2
def jYd (t : jJv) : Int :=
 if t.Levels.length < 2 ∨ 30 < t.Levels.length ∨ t.Halves.length + 1 ≠ t.Levels.length then 11
 else if jXw (jNa t) t.Levels.length 0 = 0 then jXw (qVk t) t.Halves.length 0 else jXw (jNa t) t.Levels.length 0
def jYs (t : jJv) : Int := if inR (-1000000) 1000000 t.X = true ∧ inR 1 100000 t.Width = true then 0 else 2
def jKc (b t : jJv) : Int := if t.X ≤ b.X then 10 else if 2 * (t.X - b.X) < t.Width + b.Width then 17 else 0
theorem qV1 {N : Nat} {t : jJv} (hl : t.Levels.length < 1000000) (hN : 2 ^ 64 ≤ N) : jQ1 (jX9 N t) N 0 = some (jFz (Sum.inl ()) (fun z => Sum.inr z) (jXw (jNa t) t.Levels.length 0)) := by
  refine jU8 (f := jX9 N t) (e := jNa t) (n := t.Levels.length) (fin := Sum.inl ()) (err := fun z => Sum.inr z) (fun i hi _ => ?_) (fun _ => ?_) (by omega)
  · unfold jX9
    simp only [jQe, jKp, jL8]
    rw [dT (by omega), cnT, qJn hi, bS, jUk, bS, jN9 (by omega)]
    cases h1 : inR 0 100000 t.Levels[i]! with
    | false =>
      have e : jNa t i = 2 := by unfold jNa; rw [h1]; rfl
      rw [e]; rfl
    | true =>
      rw [Bool.not_true, cnF]
      by_cases h0 : i = 0
      · subst h0
        have e : jNa t 0 = 0 := by unfold jNa; rw [h1, if_pos rfl]; exact if_neg (by omega)
        rw [dF (by omega), cnF, bS, Bool.false_and, e]; rfl
      · rw [dT (by omega), cnT, idxP hi h0 hl, bS, Bool.true_and]
        by_cases hc : t.Levels[i]! ≤ t.Levels[i - 1]!
        · have e : jNa t i = 10 := by unfold jNa; rw [h1, if_pos rfl]; exact if_pos ⟨by omega, hc⟩
          rw [dT hc, e]; rfl
        · have e : jNa t i = 0 := by unfold jNa; rw [h1, if_pos rfl]; exact if_neg (fun h => hc h.2)
          rw [dF hc, e]; rfl
  · unfold jX9
    simp only [jQe]
    rw [dF (by omega)]; rfl
theorem qVm {N : Nat} {t : jJv} (hl : t.Halves.length < 1000000) (hN : 2 ^ 64 ≤ N) : jQ1 (jX8 N t) N 0 = some (jFz (Sum.inl ()) (fun z => Sum.inr z) (jXw (qVk t) t.Halves.length 0)) := by
 refine jU8 (f := jX8 N t) (e := qVk t) (n := t.Halves.length) (fin := Sum.inl ()) (err := fun z => Sum.inr z) (fun i hi _ => ?_) (fun _ => ?_) (by omega)
 ·unfold jX8 qVk
  simp only [jQe]
  rw [dT (by omega), cnT, qJn hi, bS, jUk, bS, jN9 (by omega)]
  cases inR 0 100000 t.Halves[i]! <;> rfl
 ·unfold jX8
  simp only [jQe]
  rw [dF (by omega)]; rfl
theorem qYl {N : Nat} {t : jJv} (hl : t.Levels.length < 1000000) (hN : 2 ^ 64 ≤ N) : jQ1 (jVm N t) N 0 = some (jFz (Sum.inl ()) (fun z => Sum.inr z) (jXw (jNa t) t.Levels.length 0)) := by
  refine jU8 (f := jVm N t) (e := jNa t) (n := t.Levels.length) (fin := Sum.inl ()) (err := fun z => Sum.inr z) (fun i hi _ => ?_) (fun _ => ?_) (by omega)
  · unfold jVm
    simp only [jQe, jKp, jL8]
    rw [dT (by omega), cnT, qJn hi, bS, jGt, bS, jN9 (by omega)]
    cases h1 : inR 0 100000 t.Levels[i]! with
    | false =>
      have e : jNa t i = 2 := by unfold jNa; rw [h1]; rfl
      rw [e]; rfl
    | true =>
      rw [Bool.not_true, cnF]
      by_cases h0 : i = 0
      · subst h0
        have e : jNa t 0 = 0 := by unfold jNa; rw [h1, if_pos rfl]; exact if_neg (by omega)
        rw [dF (by omega), cnF, bS, cnF, bS, Bool.false_and, e]; rfl
      · rw [dT (by omega), cnT, bS, cnT, idxP hi h0 hl, bS, Bool.true_and]
        by_cases hc : t.Levels[i]! ≤ t.Levels[i - 1]!
        · have e : jNa t i = 10 := by unfold jNa; rw [h1, if_pos rfl]; exact if_pos ⟨by omega, hc⟩
          rw [dT hc, e]; rfl
        · have e : jNa t i = 0 := by unfold jNa; rw [h1, if_pos rfl]; exact if_neg (fun h => hc h.2)
          rw [dF hc, e]; rfl
  · unfold jVm
    simp only [jQe]
    rw [dF (by omega)]; rfl
theorem qW2 {N : Nat} {t : jJv} (hl : t.Halves.length < 1000000) (hN : 2 ^ 64 ≤ N) : jQ1 (jVb N t) N 0 = some (jFz (Sum.inl ()) (fun z => Sum.inr z) (jXw (qVk t) t.Halves.length 0)) := by
 refine jU8 (f := jVb N t) (e := qVk t) (n := t.Halves.length) (fin := Sum.inl ()) (err := fun z => Sum.inr z) (fun i hi _ => ?_) (fun _ => ?_) (by omega)
 ·unfold jVb qVk
  simp only [jQe]
  rw [dT (by omega), cnT, qJn hi, bS, jGt, bS, jN9 (by omega)]
  cases inR 0 100000 t.Halves[i]! <;> rfl
 ·unfold jVb
  simp only [jQe]
  rw [dF (by omega)]; rfl
theorem qKb {N : Nat} {t : jJv} (hl : t.Levels.length < 1000000) (hh : t.Halves.length < 1000000) (hN : 2 ^ 64 ≤ N) : jKk N t = some (jYd t) := by
  unfold jKk
  simp only [jQe, jKp, jYp]
  rw [qQq (n := (t.Levels.length : Int) - 1) (by omega) (by omega)]
  by_cases hc : t.Levels.length < 2 ∨ 30 < t.Levels.length ∨ t.Halves.length + 1 ≠ t.Levels.length
  · have e : jYd t = 11 := by unfold jYd; exact if_pos hc
    rw [show (decide ((t.Levels.length : Int) < 2) || decide ((30 : Int) < (t.Levels.length : Int)) || !decide ((t.Halves.length : Int) = (t.Levels.length : Int) - 1)) = true by simp; omega, e]; rfl
  · have e : jYd t = if jXw (jNa t) t.Levels.length 0 = 0 then jXw (qVk t) t.Halves.length 0 else jXw (jNa t) t.Levels.length 0 := by unfold jYd; exact if_neg hc
    rw [show (decide ((t.Levels.length : Int) < 2) || decide ((30 : Int) < (t.Levels.length : Int)) || !decide ((t.Halves.length : Int) = (t.Levels.length : Int) - 1)) = false by simp; omega, cnF, qYl hl hN, bS, qW2 hh hN, e]
    unfold jFz
    by_cases h1 : jXw (jNa t) t.Levels.length 0 = 0
    · rw [if_pos h1, if_pos h1, Sum.elim_inl, bS]
      by_cases h2 : jXw (qVk t) t.Halves.length 0 = 0
      · rw [if_pos h2, h2]; rfl
      · rw [if_neg h2]; rfl
    · rw [if_neg h1, if_neg h1]; rfl
theorem qKs {N : Nat} {t : jJv} (hl : t.Levels.length < 1000000) (hh : t.Halves.length < 1000000) (hN : 2 ^ 64 ≤ N) :
    ((jXm N (List.length t.Levels : Int) 2 30).bind fun v12 => bif ((!v12) || (jJq .neq (List.length t.Halves : Int) (IntKind.i64.wrap ((List.length t.Levels : Int) - 1)))) then (some 11) else ((jQ1 (jX9 N t) N 0).bind fun o20 => Sum.elim (fun l22 => (jQ1 (jX8 N t) N 0).bind fun o29 => Sum.elim (fun l31 => some 0) (fun r32 => some r32) o29) (fun r23 => some r23) o20) : Option Int) = some (jYd t) := by
  rw [jUk, bS, jYp, qQq (n := (t.Levels.length : Int) - 1) (by omega) (by omega)]
  by_cases hc : t.Levels.length < 2 ∨ 30 < t.Levels.length ∨ t.Halves.length + 1 ≠ t.Levels.length
  · have e : jYd t = 11 := by unfold jYd; exact if_pos hc
    rw [show ((!inR 2 30 (t.Levels.length : Int)) || !decide ((t.Halves.length : Int) = (t.Levels.length : Int) - 1)) = true by simp [inR]; omega, e]; rfl
  · have e : jYd t = if jXw (jNa t) t.Levels.length 0 = 0 then jXw (qVk t) t.Halves.length 0 else jXw (jNa t) t.Levels.length 0 := by unfold jYd; exact if_neg hc
    rw [show ((!inR 2 30 (t.Levels.length : Int)) || !decide ((t.Halves.length : Int) = (t.Levels.length : Int) - 1)) = false by simp [inR]; omega, cnF, qV1 hl hN, bS, qVm hh hN, e]
    unfold jFz
    by_cases h1 : jXw (jNa t) t.Levels.length 0 = 0
    · rw [if_pos h1, if_pos h1, Sum.elim_inl, bS]
      by_cases h2 : jXw (qVk t) t.Halves.length 0 = 0
      · rw [if_pos h2, h2]; rfl
      · rw [if_neg h2]; rfl
    · rw [if_neg h1, if_neg h1]; rfl
theorem jNp {t : jJv} (h : jYs t = 0) : -1000000 ≤ t.X ∧ t.X ≤ 1000000 ∧ 1 ≤ t.Width ∧ t.Width ≤ 100000 := by
 unfold jYs at h
 split at h
 ·rename_i hc; simp [inR] at hc; omega
 ·cases h
end Go.KB
namespace Go.KB
set_option linter.unusedVariables false
set_option maxRecDepth 100000
def jF7 (b : Option jJv) (t : jJv) : Int :=
 if jYs t = 0 then (match b with | none => jYd t | some x => if jKc x t = 0 then jYd t else jKc x t) else jYs t
theorem jMg (t : jJv) : jYs t = if (inR (-1000000) 1000000 t.X && inR 1 100000 t.Width) = true then 0 else 2 := by
 unfold jYs
 simp only [Bool.and_eq_true]
theorem jSg {N : Nat} {t : jJv} {b : Option jJv} (hl : t.Levels.length < 1000000) (hh : t.Halves.length < 1000000) (hb : ∀ x, b = some x → jYs x = 0) (hN : 2 ^ 64 ≤ N) : jW0 N t b = some (jF7 b t) := by
  unfold jW0 jF7
  rw [jUk, bS, jUk]
  have hf := qKs (t := t) hl hh hN
  cases h1 : inR (-1000000) 1000000 t.X with
  | false =>
    have e : jYs t = 2 := by rw [jMg, h1]; rfl
    rw [e]; rfl
  | true =>
    rw [Bool.not_true, Bool.not_false, cnT, bS, Bool.false_or]
    cases h2 : inR 1 100000 t.Width with
    | false =>
      have e : jYs t = 2 := by rw [jMg, h1, h2]; rfl
      rw [e]; rfl
    | true =>
      have e : jYs t = 0 := by rw [jMg, h1, h2]; rfl
      have pt := jNp e
      rw [e, if_pos rfl, Bool.not_true, cnF]
      cases b with
      | none => exact hf
      | some x =>
        have px := jNp (hb x rfl)
        simp only [Option.isSome_some, cnT, bS, jL8, jQe]
        rw [qQq (n := t.X - x.X) (by omega) (by omega), qQq (n := 2 * (t.X - x.X)) (by omega) (by omega), qQq (n := t.Width + x.Width) (by omega) (by omega)]
        by_cases h3 : t.X ≤ x.X
        · have e3 : jKc x t = 10 := by unfold jKc; exact if_pos h3
          rw [dT (by omega), e3]; rfl
        · rw [dF (by omega), cnF]
          by_cases h4 : 2 * (t.X - x.X) < t.Width + x.Width
          · have e4 : jKc x t = 17 := by unfold jKc; rw [if_neg h3]; exact if_pos h4
            rw [dT h4, e4]; rfl
          · have e4 : jKc x t = 0 := by unfold jKc; rw [if_neg h3]; exact if_neg h4
            rw [dF h4, e4, if_pos rfl]
            exact hf
def jGf (l : List jJv) (i : Nat) : Int := jF7 (if i = 0 then none else some l[i - 1]!) l[i]!
theorem jA4 {l : List jJv} {i : Nat} (h : jGf l i = 0) : jYs l[i]! = 0 := by
 unfold jGf jF7 at h
 split at h
 ·assumption
 ·exact h
def jFs (l : jJc) (least : Int) : Int := if (inR least 1000000000 l.Mass && inR (-1000000) 1000000 l.X && inR (-100000) 100000 l.Z && inR 0 1000000000 l.Free) = true then 0 else 2
theorem qVw {N : Nat} {l : jJc} {least : Int} : jVc N l least = some (jFs l least) := by
 unfold jVc jFs
 simp only [jUk, bS]
 cases inR least 1000000000 l.Mass <;> cases inR (-1000000) 1000000 l.X <;> cases inR (-100000) 100000 l.Z <;> cases inR 0 1000000000 l.Free <;> rfl
def nmF (s : GShip) : Nat → Str
 | 0 => s.Light.Name
 | k + 1 => s.Items[k]!.Name
def jCk (s : GShip) (i : Nat) : Int := if jW3 s.Items[i]!.Name = true then (if dup (nmF s) (i + 1) s.Items[i]!.Name = true then 5 else jFs s.Items[i]! 0) else 4
def qJd (s : GShip) : Int := if jW3 s.Light.Name = true then (if jFs s.Light 1 = 0 then (if 60 < s.Items.length then 8 else jXw (jCk s) s.Items.length 0) else jFs s.Light 1) else 4
theorem qVc {N : Nat} {s : GShip} (hl : s.Items.length < 1000000) (hN : 2 ^ 64 ≤ N) : jYb N s = some (qJd s) := by
  unfold jYb qJd
  rw [jCy (by omega), bS, qVw, bS, jYp, jKp]
  cases jW3 s.Light.Name with
  | false => rfl
  | true =>
    rw [Bool.not_true, cnF, if_pos rfl]
    by_cases h1 : jFs s.Light 1 = 0
    · rw [dT h1, Bool.not_true, cnF, if_pos h1]
      by_cases h2 : 60 < s.Items.length
      · rw [dT (by omega), cnT, if_pos h2]
      · rw [dF (by omega), cnF, if_neg h2]
        have := jN7 (f := jZ4 N s) (e := jCk s) (N := N) (n := s.Items.length) (fin := Sum.inl ()) (err := fun z => Sum.inr z) (fun i => (seen (nmF s) (i + 1), (i : Int))) (fun i hi _ => by
          unfold jZ4
          simp only [jQe, jYp]
          rw [dT (by omega), cnT, qJn hi, bS, jCy (by omega), bS, qQ7, qVw, bS, jN9 (by omega)]
          unfold jCk
          cases jW3 s.Items[i]!.Name with
          | false => rfl
          | true =>
            simp only [Bool.not_true, cnF, if_true]
            cases dup (nmF s) (i + 1) s.Items[i]!.Name with
            | true => rfl
            | false =>
              simp only [cnF, Bool.false_eq_true, if_false]
              by_cases h3 : jFs s.Items[i]! 0 = 0
              · rw [dT h3, if_pos h3]; rfl
              · rw [dF h3, if_neg h3]; rfl) (fun _ => by
          unfold jZ4
          simp only [jQe]
          rw [dF (by omega)]; rfl) (by omega)
        rw [show jQ1 (jZ4 N s) N (jM0 ([] : (List (Str × Bool))) s.Light.Name true, 0) = _ from this, bS]
        unfold jFz
        by_cases hz : jXw (jCk s) s.Items.length 0 = 0
        · rw [if_pos hz, hz]; rfl
        · rw [if_neg hz]; rfl
    · rw [dF h1, if_neg h1]; rfl
theorem qXk {N : Nat} {l : jJc} {x : List jJc} {least : Int} (hx : x.length < 1000000) (hN : 2 ^ 64 ≤ N) :
  jYl N l x least = some (if jW3 l.Name = true then (if dup (fun j => x[j]!.Name) x.length l.Name = true then 5 else jFs l least) else 4) := by
 unfold jYl
 rw [jA0 (by omega), bS]
 rw [jU8 (f := jV5 N l x) (e := same (fun j => x[j]!.Name) l.Name) (n := x.length) (fin := Sum.inl ()) (err := fun z => Sum.inr 5) (fun j hj _ => by
  unfold jV5
  simp only [jQe]
  rw [dT (by omega), cnT, qJn hj, bS, jDl, jN9 (by omega)]
  unfold same
  by_cases h : x[j]!.Name = l.Name
  ·rw [dT h, if_pos h]; rfl
  ·rw [dF h, if_neg h]; rfl) (fun _ => by
  unfold jV5
  simp only [jQe]
  rw [dF (by omega)]; rfl) (by omega), qKe, bS]
 cases jW3 l.Name with
 | false => rfl
 | true =>
  rw [Bool.not_true, cnF, if_pos rfl]
  cases dup (fun j => x[j]!.Name) x.length l.Name with
  | true => rfl
  | false =>
   unfold jFz jFs
   simp only [Bool.false_eq_true, if_false, if_true, Sum.elim_inl, jGt, bS]
   cases inR least 1000000000 l.Mass <;> cases inR (-1000000) 1000000 l.X <;> cases inR (-100000) 100000 l.Z <;> cases inR 0 1000000000 l.Free <;> rfl
def jSy (s : GShip) : Int :=
 if jW3 s.Name = true then (if (inR 1 1000000 s.Length && inR 1 40 (s.Stations.length : Int)) = true then (if jXw (jGf s.Stations) s.Stations.length 0 = 0 then qJd s else jXw (jGf s.Stations) s.Stations.length 0) else 2) else 4
structure Tame (s : GShip) : Prop where
 st : s.Stations.length < 1000000
 it : s.Items.length < 1000000
 lv : ∀ i, i < s.Stations.length → s.Stations[i]!.Levels.length < 1000000
 hv : ∀ i, i < s.Stations.length → s.Stations[i]!.Halves.length < 1000000
 s6 : s.Stations.length ≤ 6 ∨ 40 < s.Stations.length
 l8 : ∀ i, i < s.Stations.length → s.Stations[i]!.Levels.length ≤ 8 ∨ 30 < s.Stations[i]!.Levels.length
theorem qVg {N : Nat} {s : GShip} (ht : Tame s) (hN : 2 ^ 64 ≤ N) : jWd N s = some (jSy s) := by
 have h1 := ht.st
 unfold jWd jSy
 rw [jCy (by omega), bS, jUk, bS, jUk]
 cases jW3 s.Name with
 | false => rfl
 | true =>
  rw [Bool.not_true, cnF, if_pos rfl]
  cases inR 1 1000000 s.Length with
  | false => rfl
  | true =>
   rw [Bool.not_true, Bool.not_false, cnT, bS, Bool.false_or, Bool.true_and]
   cases inR 1 40 (s.Stations.length : Int) with
   | false => rfl
   | true =>
    rw [Bool.not_true, cnF, if_pos rfl]
    have := jN7 (f := jWp N s) (e := jGf s.Stations) (N := N) (n := s.Stations.length) (fin := Sum.inl ()) (err := fun z => Sum.inr z) (fun i => ((if i = 0 then none else some s.Stations[i - 1]!), (i : Int))) (fun i hi hz => by
     unfold jWp
     simp only [jQe, jYp]
     rw [dT (by omega), cnT, qJn hi, bS, jSg (ht.lv i hi) (ht.hv i hi) (fun x hx => by
      by_cases h0 : i = 0
      ·rw [if_pos h0] at hx; cases hx
      ·rw [if_neg h0] at hx; cases hx; exact jA4 (hz (i - 1) (by omega))) hN, bS, bS, jN9 (by omega)]
     rw [show jF7 (if i = 0 then none else some s.Stations[i - 1]!) s.Stations[i]! = jGf s.Stations i from rfl]
     by_cases h3 : jGf s.Stations i = 0
     ·rw [dT h3, if_pos h3, if_neg (by omega), Nat.add_sub_cancel]; rfl
     ·rw [dF h3, if_neg h3]; rfl) (fun _ => by
     unfold jWp
     simp only [jQe]
     rw [dF (by omega)]; rfl) (by omega)
    rw [show jQ1 (jWp N s) N ((none : Option jJv), 0) = _ from this, bS, qVc ht.it hN]
    unfold jFz
    by_cases hz : jXw (jGf s.Stations) s.Stations.length 0 = 0
    ·rw [if_pos hz, if_pos hz]; rfl
    ·rw [if_neg hz, if_neg hz]; rfl
theorem qJq {f g : Nat → Str} {x : Str} : ∀ {n : Nat}, (∀ j, j < n → f j = g j) → dup f n x = dup g n x
 | 0, _ => rfl
 | n + 1, h => by rw [dup, dup, h n (by omega), qJq (fun j hj => h j (by omega))]
theorem qVs {N : Nat} {t : jJv} : jW8 N t = some (jYs t) := by
 unfold jW8
 rw [jGt, bS, jGt, jMg]
 cases inR (-1000000) 1000000 t.X <;> cases inR 1 100000 t.Width <;> rfl
theorem jAc {N : Nat} {s : GShip} (ht : Tame s) (hN : 2 ^ 64 ≤ N) : jGk N s = some (jSy s) := by
  have h1 := ht.st
  have h2 := ht.it
  unfold jGk jSy
  rw [jA0 (by omega), bS, jGt, bS, jGt]
  cases jW3 s.Name with
  | false => rfl
  | true =>
    rw [Bool.not_true, cnF, if_pos rfl]
    cases inR 1 1000000 s.Length with
    | false => rfl
    | true =>
      rw [Bool.not_true, Bool.not_false, cnT, bS, Bool.false_or, Bool.true_and]
      cases inR 1 40 (s.Stations.length : Int) with
      | false => rfl
      | true =>
        rw [Bool.not_true, cnF, if_pos rfl]
        rw [jU8 (f := jW5 N s) (e := jGf s.Stations) (n := s.Stations.length) (fin := Sum.inl ()) (err := fun z => Sum.inr z) (fun i hi hz => by
          unfold jW5
          simp only [jQe, jYp, jKp, jL8]
          rw [dT (by omega), cnT, qJn hi, bS, qVs, bS, qKb (ht.lv i hi) (ht.hv i hi) hN, jN9 (by omega)]
          by_cases hp : jYs s.Stations[i]! = 0
          · rw [dT hp, Bool.not_true, cnF]
            have pt := jNp hp
            have hfin : ((some (jYd s.Stations[i]!)).bind fun v10 => bif (!decide (v10 = 0)) then (some (.inr (Sum.inr v10))) else (some (.inl (((i + 1 : Nat) : Int)))) : Option (Int ⊕ (Unit ⊕ Int))) = if jYd s.Stations[i]! = 0 then some (.inl ((i + 1 : Nat) : Int)) else some (.inr (.inr (jYd s.Stations[i]!))) := by
              rw [bS]
              by_cases hf : jYd s.Stations[i]! = 0
              · rw [dT hf, if_pos hf]; rfl
              · rw [dF hf, if_neg hf]; rfl
            by_cases h0 : i = 0
            · subst h0
              have e : jGf s.Stations 0 = jYd s.Stations[0]! := by
                unfold jGf jF7; rw [if_pos hp]; rfl
              rw [dF (by omega)]
              simp only [cnF, bS, Bool.false_and]
              rw [e]; exact hfin
            · have px := jNp (jA4 (hz (i - 1) (by omega)))
              have e : jGf s.Stations i = if jKc s.Stations[i - 1]! s.Stations[i]! = 0 then jYd s.Stations[i]! else jKc s.Stations[i - 1]! s.Stations[i]! := by
                unfold jGf jF7; rw [if_pos hp, if_neg h0]
              rw [dT (by omega)]
              simp only [cnT, idxP hi h0 h1, bS, Bool.true_and]
              rw [qQq (n := s.Stations[i]!.X - s.Stations[i - 1]!.X) (by omega) (by omega), qQq (n := 2 * (s.Stations[i]!.X - s.Stations[i - 1]!.X)) (by omega) (by omega), qQq (n := s.Stations[i]!.Width + s.Stations[i - 1]!.Width) (by omega) (by omega), e]
              by_cases h3 : s.Stations[i]!.X ≤ s.Stations[i - 1]!.X
              · have e3 : jKc s.Stations[i - 1]! s.Stations[i]! = 10 := by unfold jKc; exact if_pos h3
                rw [dT h3, e3]; rfl
              · rw [dF h3, cnF]
                by_cases h4 : 2 * (s.Stations[i]!.X - s.Stations[i - 1]!.X) < s.Stations[i]!.Width + s.Stations[i - 1]!.Width
                · have e4 : jKc s.Stations[i - 1]! s.Stations[i]! = 17 := by unfold jKc; rw [if_neg h3]; exact if_pos h4
                  rw [dT h4, e4]; rfl
                · have e4 : jKc s.Stations[i - 1]! s.Stations[i]! = 0 := by unfold jKc; rw [if_neg h3]; exact if_neg h4
                  rw [dF h4, e4, cnF, if_pos rfl]; exact hfin
          · have e : jGf s.Stations i = jYs s.Stations[i]! := by unfold jGf jF7; exact if_neg hp
            rw [dF hp, e, if_neg hp]; rfl) (fun _ => by
          unfold jW5
          simp only [jQe]
          rw [dF (by omega)]; rfl) (by omega), bS]
        unfold jFz
        by_cases hz : jXw (jGf s.Stations) s.Stations.length 0 = 0
        · rw [if_pos hz, if_pos hz, Sum.elim_inl, qXk (by simp) hN, bS, jYp, jKp]
          unfold qJd
          cases jW3 s.Light.Name with
          | false => rfl
          | true =>
            simp only [if_true, List.length_nil, dup, Bool.false_eq_true, if_false]
            by_cases h3 : jFs s.Light 1 = 0
            · rw [dT h3, Bool.not_true, cnF, if_pos h3]
              by_cases h4 : 60 < s.Items.length
              · rw [dT (by omega), cnT, if_pos h4]
              · rw [dF (by omega), cnF, if_neg h4]
                have := jN7 (f := jV8 N s) (e := jCk s) (N := N) (n := s.Items.length) (fin := Sum.inl ()) (err := fun z => Sum.inr z) (fun i => (s.Light :: s.Items.take i, (i : Int))) (fun i hi _ => by
                  unfold jV8
                  simp only [jQe, jYp]
                  have hd : dup (fun j => (s.Light :: s.Items.take i)[j]!.Name) (s.Light :: s.Items.take i).length s.Items[i]!.Name = dup (nmF s) (i + 1) s.Items[i]!.Name := by
                    rw [show (s.Light :: s.Items.take i).length = i + 1 by simp; omega]
                    refine qJq fun j hj => ?_
                    cases j with
                    | zero => rfl
                    | succ j =>
                      show (s.Light :: s.Items.take i)[j + 1]!.Name = s.Items[j]!.Name
                      rw [qU2 (by simp; omega), qU2 (show j < s.Items.length by omega), List.getElem_cons_succ, List.getElem_take]
                  rw [dT (by omega), cnT, qJn hi, bS, qXk (by simp; omega) hN, bS, bS, jBa (by simp; unfold lim; omega), bS, jN9 (by omega), hd]
                  rw [show (if jW3 s.Items[i]!.Name = true then (if dup (nmF s) (i + 1) s.Items[i]!.Name = true then (5 : Int) else jFs s.Items[i]! 0) else 4) = jCk s i from rfl]
                  rw [List.take_succ_eq_append_getElem hi, qU2 hi]
                  by_cases h5 : jCk s i = 0
                  · rw [dT h5, if_pos h5]; rfl
                  · rw [dF h5, if_neg h5]; rfl) (fun _ => by
                  unfold jV8
                  simp only [jQe]
                  rw [dF (by omega)]; rfl) (by omega)
                rw [show jQ1 (jV8 N s) N ([s.Light], 0) = _ from this, bS]
                unfold jFz
                by_cases hy : jXw (jCk s) s.Items.length 0 = 0
                · rw [if_pos hy, hy]; rfl
                · rw [if_neg hy]; rfl
            · rw [dF h3, if_neg h3]; rfl
        · rw [if_neg hz, if_neg hz]; rfl
def smE (l : List jJv) (i : Nat) : Int := if (((decide ((8 : Int) < (l[i]!.Levels.length : Int)) && decide ((l[i]!.Levels.length : Int) ≤ 30)) || decide ((40 : Int) < (l[i]!.Levels.length : Int))) || decide ((40 : Int) < (l[i]!.Halves.length : Int))) = true then 1 else 0
def smI2 (l : List jJc) (i : Nat) : Int := if decide ((40 : Int) < (l[i]!.Name.length : Int)) = true then 1 else 0
theorem qUu {N : Nat} {s : GShip} (hN : 2 ^ 64 ≤ N) : ∃ b, jU1 N s = some b ∧ (b = true → Tame s) := by
 unfold jU1
 simp only [jKp, jL8]
 generalize hc : (decide ((40 : Int) < (s.Name.length : Int)) || decide ((40 : Int) < (s.Light.Name.length : Int)) || (decide ((6 : Int) < (s.Stations.length : Int)) && decide ((s.Stations.length : Int) ≤ 40)) || decide ((45 : Int) < (s.Stations.length : Int)) || (decide ((8 : Int) < (s.Items.length : Int)) && decide ((s.Items.length : Int) ≤ 60)) || decide ((205 : Int) < (s.Items.length : Int))) = c
 cases c with
 | true => exact ⟨false, rfl, fun h => by cases h⟩
 | false =>
  simp only [Bool.or_eq_false_iff, Bool.and_eq_false_iff, decide_eq_false_iff_not] at hc
  have h1 : s.Stations.length ≤ 45 := by omega
  have h2 : s.Items.length ≤ 205 := by omega
  rw [cnF, jU8 (f := jW7 N s) (e := smE s.Stations) (n := s.Stations.length) (fin := Sum.inl ()) (err := fun z => Sum.inr false) (fun i hi _ => by
   unfold jW7
   simp only [jQe, jKp, jL8]
   rw [dT (by omega), cnT, qJn hi, bS, jN9 (by omega)]
   unfold smE
   generalize (((decide ((8 : Int) < (s.Stations[i]!.Levels.length : Int)) && decide ((s.Stations[i]!.Levels.length : Int) ≤ 30)) || decide ((40 : Int) < (s.Stations[i]!.Levels.length : Int))) || decide ((40 : Int) < (s.Stations[i]!.Halves.length : Int))) = b
   cases b <;> rfl) (fun _ => by
   unfold jW7
   simp only [jQe]
   rw [dF (by omega)]; rfl) (by omega), bS]
  unfold jFz
  by_cases hz : jXw (smE s.Stations) s.Stations.length 0 = 0
  ·rw [if_pos hz, Sum.elim_inl, jU8 (f := jW6 N s) (e := smI2 s.Items) (n := s.Items.length) (fin := Sum.inl ()) (err := fun z => Sum.inr false) (fun i hi _ => by
    unfold jW6
    simp only [jQe, jKp]
    rw [dT (by omega), cnT, qJn hi, bS, jN9 (by omega)]
    unfold smI2
    generalize decide ((40 : Int) < (s.Items[i]!.Name.length : Int)) = b
    cases b <;> rfl) (fun _ => by
    unfold jW6
    simp only [jQe]
    rw [dF (by omega)]; rfl) (by omega), bS]
   unfold jFz
   have hs : ∀ i, i < s.Stations.length → (s.Stations[i]!.Levels.length ≤ 8 ∨ 30 < s.Stations[i]!.Levels.length) ∧ s.Stations[i]!.Levels.length ≤ 40 ∧ s.Stations[i]!.Halves.length ≤ 40 := fun i hi => by
    have := jKm hz i (by omega) (by omega)
    unfold smE at this
    split at this
    ·cases this
    ·rename_i hn
     simp only [Bool.or_eq_true, Bool.and_eq_true, decide_eq_true_eq, not_or] at hn
     omega
   by_cases hy : jXw (smI2 s.Items) s.Items.length 0 = 0
   ·rw [if_pos hy]
    exact ⟨true, rfl, fun _ => ⟨by omega, by omega, fun i hi => by have := hs i hi; omega, fun i hi => by have := hs i hi; omega, by omega, fun i hi => (hs i hi).1⟩⟩
   ·rw [if_neg hy]; exact ⟨false, rfl, fun h => by cases h⟩
  ·rw [if_neg hz]; exact ⟨false, rfl, fun h => by cases h⟩
theorem qZx : jBb (2 ^ 70) = some true := by kernel_rfl
end Go.KB
namespace Go.KB
set_option linter.unusedVariables false
theorem qVd {N : Nat} {s : GShip} (ht : Tame s) (hN : 2 ^ 64 ≤ N) : jY6 N s = some s := by
 have h1 := ht.st
 have h2 := ht.it
 have happ : ∀ x : List Int, x.length < 1000000 → jYu N x = some x := fun x hx => by
  unfold jYu
  rw [jBa (by simp; unfold lim; omega)]; rfl
 unfold jY6
 rw [jBa (by simp; unfold lim; omega), bS, List.nil_append]
 have := jN7 (f := jVt N s) (e := fun _ => 0) (N := N) (n := s.Stations.length) (fin := s) (err := fun _ => s) (fun i => (({ s with Stations := s.Stations.take i } : GShip), (i : Int))) (fun i hi _ => by
  unfold jVt
  simp only [jQe]
  rw [dT (by omega), cnT, qJn hi, bS, happ _ (ht.lv i hi), bS, happ _ (ht.hv i hi), bS, jBa (by simp; unfold lim; omega), bS, jN9 (by omega), List.take_succ_eq_append_getElem hi, qU2 hi]
  rfl) (fun _ => by
  unfold jVt
  simp only [jQe]
  rw [dF (by omega), List.take_length]; rfl) (by omega)
 rw [jDw] at this
 rw [show jQ1 (jVt N s) N (({ ({ s with Stations := ([] : (List jJv)) } : GShip) with Items := s.Items } : GShip), 0) = _ from this]; rfl
end Go.KB
