/- Plain laws: names. Plain laws: maps as sets of names, texts that are compared, rows of numbers that are the same. Plain laws: the errors of ships, of the program and of the reference. Plain laws: Check of the program and of the reference, copies of ships, small ships. Plain laws: copies of ships. No condition. -/
import Derived.Test.YthoopaegiclfaaaGreatPZa
import Derived.KernelRfl
namespace Go.KB
set_option linter.unusedVariables false
def qXz (x0 : Str) (s1 : Int) : Option (Int ⊕ (Unit ⊕ Bool)) :=
 bif (jJq .lss s1 (List.length x0 : Int)) then ((idx x0 s1).bind fun v2 => bif ((!(((jJq .geq ((UInt8.toNat v2 : Nat) : Int) 97) && (jJq .leq ((UInt8.toNat v2 : Nat) : Int) 122)) || ((jJq .geq ((UInt8.toNat v2 : Nat) : Int) 65) && (jJq .leq ((UInt8.toNat v2 : Nat) : Int) 90)))) && ((jJq .eql s1 0) || ((jJq .neq ((UInt8.toNat v2 : Nat) : Int) 45) && ((jJq .lss ((UInt8.toNat v2 : Nat) : Int) 48) || (jJq .gtr ((UInt8.toNat v2 : Nat) : Int) 57))))) then (some (.inr (Sum.inr false))) else (some (.inl (IntKind.i64.wrap (s1 + 1))))) else (some (.inr (Sum.inl ())))
def qYh (N : Nat) (x0 : Str) : Option (Bool) :=
 bif ((jJq .lss (List.length x0 : Int) 1) || (jJq .gtr (List.length x0 : Int) 12)) then (some false) else ((jXf (qXz x0) N 0).bind fun o5 => Sum.elim (fun l7 => some true) (fun r8 => some r8) o5)
theorem qVy {N : Nat} {s : Str} (hN : 13 ≤ N) : qYh N s = some (jBb s) := by
  unfold qYh
  by_cases hlen : s.length < 1 ∨ 12 < s.length
  · have hc : (jJq .lss (s.length : Int) 1 || jJq .gtr (s.length : Int) 12) = true := by
      simp; omega
    rw [hc, cnT]
    congr 1
    unfold jBb
    rcases hlen with h | h
    · have : s = [] := List.eq_nil_of_length_eq_zero (by omega)
      subst this; rfl
    · cases s with
      | nil => rfl
      | cons c r => simp at h; simp; intro h'; omega
  · have hc : (jJq .lss (s.length : Int) 1 || jJq .gtr (s.length : Int) 12) = false := by
      rw [Bool.or_eq_false_iff]; simp; omega
    rw [hc, cnF]
    cases s with
    | nil => simp at hlen
    | cons c r =>
      have hr : r.length < 12 := by simp at hlen; omega
      have hbad : ∀ i (hi : i < (c :: r).length), ((!(((jJq .geq ((UInt8.toNat (c :: r)[i] : Nat) : Int) 97) && (jJq .leq ((UInt8.toNat (c :: r)[i] : Nat) : Int) 122)) || ((jJq .geq ((UInt8.toNat (c :: r)[i] : Nat) : Int) 65) && (jJq .leq ((UInt8.toNat (c :: r)[i] : Nat) : Int) 90)))) && ((jJq .eql (i : Int) 0) || ((jJq .neq ((UInt8.toNat (c :: r)[i] : Nat) : Int) 45) && ((jJq .lss ((UInt8.toNat (c :: r)[i] : Nat) : Int) 48) || (jJq .gtr ((UInt8.toNat (c :: r)[i] : Nat) : Int) 57))))) =
          !(if i = 0 then jLg (c :: r)[i] else jDc (c :: r)[i]) := by
        intro i hi
        split
        · rename_i h0; subst h0
          simp only [jB9, Int.natCast_zero, decide_true, Bool.true_or, Bool.and_true]
          rfl
        · rename_i h0
          rw [jB9, show decide ((i : Int) = 0) = false by rw [decide_eq_false_iff_not]; omega, Bool.false_or]
          unfold jDc jLg chr
          simp only [jW5, jQr, jUr, jL6, jP5]
          generalize ((UInt8.toNat (c :: r)[i] : Nat) : Int) = x
          rw [Bool.eq_iff_iff]
          simp only [Bool.and_eq_true, Bool.or_eq_true, Bool.not_eq_true', Bool.or_eq_false_iff, Bool.and_eq_false_iff, decide_eq_true_eq, decide_eq_false_iff_not]
          omega
      rw [jAm (c :: r).length (if jBb (c :: r) then .inl () else .inr false) (fun i => ∀ j (h : j < (c :: r).length), j < i → (if j = 0 then jLg (c :: r)[j] else jDc (c :: r)[j]) = true) ?_ ?_ (fun j _ h => absurd h (Nat.not_lt_zero _)) N (by simp; omega)]
      · cases jBb (c :: r) <;> rfl
      · intro i hi hp
        unfold qXz
        rw [jQr, show decide ((i : Int) < ((c :: r).length : Int)) = true by rw [decide_eq_true_eq]; omega, cnT, jBg hi, bS, hbad i hi, jNh (show i < 9223372036854775807 by simp at hi; omega)]
        cases hg : (if i = 0 then jLg (c :: r)[i] else jDc (c :: r)[i]) with
        | true =>
          refine .inl ⟨rfl, fun j hj hji => ?_⟩
          rcases Nat.lt_succ_iff_lt_or_eq.1 hji with h | rfl
          · exact hp j hj h
          · exact hg
        | false =>
          refine .inr ?_
          have : jBb (c :: r) = false := by
            rw [Bool.eq_false_iff]
            intro h
            simp only [jBb, Bool.and_eq_true, decide_eq_true_eq] at h
            obtain ⟨⟨_, h1⟩, h2⟩ := h
            rw [List.all_eq_true] at h2
            cases i with
            | zero => simp [h1] at hg
            | succ i =>
              simp at hg
              have := h2 _ (List.getElem_mem (by simpa using hi : i < r.length))
              rw [this] at hg; cases hg
          rw [this]; rfl
      · intro hp
        unfold qXz
        rw [jQr, show decide ((((c :: r).length : Nat) : Int) < ((c :: r).length : Int)) = false by simp, cnF]
        have : jBb (c :: r) = true := by
          simp only [jBb, Bool.and_eq_true, decide_eq_true_eq]
          refine ⟨⟨hr, (by have h := hp 0 (by simp) (by simp); rw [if_pos rfl] at h; exact h)⟩, ?_⟩
          rw [List.all_eq_true]
          intro x hx
          obtain ⟨j, hj, rfl⟩ := List.getElem_of_mem hx
          have := hp (j + 1) (by simp; omega) (by simp; omega)
          simpa using this
        rw [this]; rfl
end Go.KB
namespace Go.KB
set_option linter.unusedVariables false
theorem jTc {α β : Type} [DecidableEq α] (z : β) (x k : α) (y : β) : ∀ m : List (α × β), jSv z (jLe m x y) k = if k = x then y else jSv z m k
 | [] => by
  by_cases h : k = x
  ·subst h; simp [jSv, jLe]
  ·simp [jSv, jLe, h]
 | p :: r => by
  by_cases hp : x = p.1
  ·subst hp
   by_cases h : k = p.1
   ·subst h; simp [jSv, jLe]
   ·simp [jSv, jLe, h]
  ·by_cases h : k = p.1
   ·subst h; simp [jSv, jLe, hp, Ne.symm hp]
   ·simp [jSv, jLe, hp, h, jTc z x k y r]
theorem qJx (a b : Str) : jBl .eql a b = decide (a = b) := by
 unfold jBl
 rw [Bool.eq_iff_iff]
 simp
theorem qV1 (a b : Str) : jBl .neq a b = !decide (a = b) := by
 rw [← qJx]; rfl
def dup (nm : Nat → Str) : Nat → Str → Bool
 | 0, _ => false
 | i + 1, x => decide (x = nm i) || dup nm i x
def seen (nm : Nat → Str) : Nat → List (Str × Bool)
 | 0 => []
 | i + 1 => jLe (seen nm i) (nm i) true
theorem qJy (nm : Nat → Str) (x : Str) : ∀ i, jSv false (seen nm i) x = dup nm i x
 | 0 => rfl
 | i + 1 => by
  simp only [seen, dup, jTc, qJy nm x i]
  by_cases h : x = nm i <;> simp [h]
def same (nm : Nat → Str) (x : Str) (j : Nat) : Int := if nm j = x then 5 else 0
theorem jA2 {e : Nat → Int} : ∀ {k i : Nat}, jXc e k i ≠ 0 → ∃ j, i ≤ j ∧ j < i + k ∧ jXc e k i = e j ∧ e j ≠ 0 ∧ ∀ m, i ≤ m → m < j → e m = 0 := by
 intro k
 induction k with
 | zero => intro i h; exact absurd rfl h
 | succ k ih =>
  intro i h
  by_cases h0 : e i = 0
  ·rw [jD9 h0] at h ⊢
   obtain ⟨j, h1, h2, h3, h4, h5⟩ := ih h
   refine ⟨j, by omega, by omega, h3, h4, fun m hm hj => ?_⟩
   by_cases hmi : m = i
   ·subst hmi; exact h0
   ·exact h5 m (by omega) hj
  ·rw [jMy h0]; exact ⟨i, by omega, by omega, rfl, h0, fun m hm hj => by omega⟩
end Go.KB
namespace Go.KB
set_option linter.unusedVariables false
set_option maxRecDepth 100000
instance : Inhabited jJy := ⟨⟨0, 0, [], []⟩⟩
instance : Inhabited GLoad := ⟨⟨[], 0, 0, 0, 0⟩⟩
theorem qYy {α β : Type} (f : α → β) (l : List α) (n : Int) : idx (l.map f) n = (idx l n).map f := by
 unfold idx
 split
 ·rfl
 ·rw [List.getElem?_map]
theorem qQm {N : Nat} {s : Str} : jKh N s = qXz s := by
 funext i
 unfold jKh qXz
 rw [show (jYf s).length = s.length by unfold jYf; rw [List.length_map]]
 unfold jYf
 rw [qYy]
 cases idx s i <;> rfl
theorem jTy {N : Nat} {s : Str} (hN : 13 ≤ N) : jKy N s = some (jBb s) := by
 rw [← qVy hN]
 unfold jKy qYh
 rw [qQm]
theorem jK9 {N : Nat} {n lo hi : Int} : jXp N n lo hi = some (inR lo hi n) := rfl
def jC1 (t : jJy) (i : Nat) : Int := if inR 0 100000 t.Levels[i]! = true then (if 0 < i ∧ t.Levels[i]! ≤ t.Levels[i - 1]! then 10 else 0) else 2
def qYl (t : jJy) (i : Nat) : Int := if inR 0 100000 t.Halves[i]! = true then 0 else 2
def jB8 (t : jJy) : Int :=
 if t.Levels.length < 2 ∨ 30 < t.Levels.length ∨ t.Halves.length + 1 ≠ t.Levels.length then 11
 else if jXc (jC1 t) t.Levels.length 0 = 0 then jXc (qYl t) t.Halves.length 0 else jXc (jC1 t) t.Levels.length 0
def jKa (t : jJy) : Int := if inR (-1000000) 1000000 t.X = true ∧ inR 1 100000 t.Width = true then 0 else 2
def jF8 (b t : jJy) : Int := if t.X ≤ b.X then 10 else if 2 * (t.X - b.X) < t.Width + b.Width then 17 else 0
theorem qZl {N : Nat} {t : jJy} (hl : t.Levels.length < 1000000) (hN : 2 ^ 64 ≤ N) : jXf (jZz N t) N 0 = some (jL8 (Sum.inl ()) (fun z => Sum.inr z) (jXc (jC1 t) t.Levels.length 0)) := by
  refine jB2 (f := jZz N t) (e := jC1 t) (n := t.Levels.length) (fin := Sum.inl ()) (err := fun z => Sum.inr z) (fun i hi _ => ?_) (fun _ => ?_) (by omega)
  · unfold jZz
    simp only [jQr, jUr, jP5]
    rw [dT (by omega), cnT, jPz hi, bS, jK9, bS, jNh (by omega)]
    cases h1 : inR 0 100000 t.Levels[i]! with
    | false =>
      have e : jC1 t i = 2 := by unfold jC1; rw [h1]; rfl
      rw [e]; rfl
    | true =>
      rw [Bool.not_true, cnF]
      by_cases h0 : i = 0
      · subst h0
        have e : jC1 t 0 = 0 := by unfold jC1; rw [h1, if_pos rfl]; exact if_neg (by omega)
        rw [dF (by omega), cnF, bS, Bool.false_and, e]; rfl
      · rw [dT (by omega), cnT, idxP hi h0 hl, bS, Bool.true_and]
        by_cases hc : t.Levels[i]! ≤ t.Levels[i - 1]!
        · have e : jC1 t i = 10 := by unfold jC1; rw [h1, if_pos rfl]; exact if_pos ⟨by omega, hc⟩
          rw [dT hc, e]; rfl
        · have e : jC1 t i = 0 := by unfold jC1; rw [h1, if_pos rfl]; exact if_neg (fun h => hc h.2)
          rw [dF hc, e]; rfl
  · unfold jZz
    simp only [jQr]
    rw [dF (by omega)]; rfl
theorem qZg {N : Nat} {t : jJy} (hl : t.Halves.length < 1000000) (hN : 2 ^ 64 ≤ N) : jXf (jZx N t) N 0 = some (jL8 (Sum.inl ()) (fun z => Sum.inr z) (jXc (qYl t) t.Halves.length 0)) := by
 refine jB2 (f := jZx N t) (e := qYl t) (n := t.Halves.length) (fin := Sum.inl ()) (err := fun z => Sum.inr z) (fun i hi _ => ?_) (fun _ => ?_) (by omega)
 ·unfold jZx qYl
  simp only [jQr]
  rw [dT (by omega), cnT, jPz hi, bS, jK9, bS, jNh (by omega)]
  cases inR 0 100000 t.Halves[i]! <;> rfl
 ·unfold jZx
  simp only [jQr]
  rw [dF (by omega)]; rfl
theorem qVk {N : Nat} {t : jJy} (hl : t.Levels.length < 1000000) (hh : t.Halves.length < 1000000) (hN : 2 ^ 64 ≤ N) :
    ((jXp N (List.length t.Levels : Int) 2 30).bind fun v12 => bif ((!v12) || (jJq .neq (List.length t.Halves : Int) (IntKind.i64.wrap ((List.length t.Levels : Int) - 1)))) then (some 11) else ((jXf (jZz N t) N 0).bind fun o20 => Sum.elim (fun l22 => (jXf (jZx N t) N 0).bind fun o29 => Sum.elim (fun l31 => some 0) (fun r32 => some r32) o29) (fun r23 => some r23) o20) : Option Int) = some (jB8 t) := by
  rw [jK9, bS, jW5, jN3 (n := (t.Levels.length : Int) - 1) (by omega) (by omega)]
  by_cases hc : t.Levels.length < 2 ∨ 30 < t.Levels.length ∨ t.Halves.length + 1 ≠ t.Levels.length
  · have e : jB8 t = 11 := by unfold jB8; exact if_pos hc
    rw [show ((!inR 2 30 (t.Levels.length : Int)) || !decide ((t.Halves.length : Int) = (t.Levels.length : Int) - 1)) = true by simp [inR]; omega, e]; rfl
  · have e : jB8 t = if jXc (jC1 t) t.Levels.length 0 = 0 then jXc (qYl t) t.Halves.length 0 else jXc (jC1 t) t.Levels.length 0 := by unfold jB8; exact if_neg hc
    rw [show ((!inR 2 30 (t.Levels.length : Int)) || !decide ((t.Halves.length : Int) = (t.Levels.length : Int) - 1)) = false by simp [inR]; omega, cnF, qZl hl hN, bS, qZg hh hN, e]
    unfold jL8
    by_cases h1 : jXc (jC1 t) t.Levels.length 0 = 0
    · rw [if_pos h1, if_pos h1, Sum.elim_inl, bS]
      by_cases h2 : jXc (qYl t) t.Halves.length 0 = 0
      · rw [if_pos h2, h2]; rfl
      · rw [if_neg h2]; rfl
    · rw [if_neg h1, if_neg h1]; rfl
theorem qJc {t : jJy} (h : jKa t = 0) : -1000000 ≤ t.X ∧ t.X ≤ 1000000 ∧ 1 ≤ t.Width ∧ t.Width ≤ 100000 := by
 unfold jKa at h
 split at h
 ·rename_i hc; simp [inR] at hc; omega
 ·cases h
end Go.KB
namespace Go.KB
set_option linter.unusedVariables false
set_option maxRecDepth 100000
def jNd (b : Option jJy) (t : jJy) : Int :=
 if jKa t = 0 then (match b with | none => jB8 t | some x => if jF8 x t = 0 then jB8 t else jF8 x t) else jKa t
theorem jNp (t : jJy) : jKa t = if (inR (-1000000) 1000000 t.X && inR 1 100000 t.Width) = true then 0 else 2 := by
 unfold jKa
 simp only [Bool.and_eq_true]
theorem jRg {N : Nat} {t : jJy} {b : Option jJy} (hl : t.Levels.length < 1000000) (hh : t.Halves.length < 1000000) (hb : ∀ x, b = some x → jKa x = 0) (hN : 2 ^ 64 ≤ N) : jWr N t b = some (jNd b t) := by
  unfold jWr jNd
  rw [jK9, bS, jK9]
  have hf := qVk (t := t) hl hh hN
  cases h1 : inR (-1000000) 1000000 t.X with
  | false =>
    have e : jKa t = 2 := by rw [jNp, h1]; rfl
    rw [e]; rfl
  | true =>
    rw [Bool.not_true, Bool.not_false, cnT, bS, Bool.false_or]
    cases h2 : inR 1 100000 t.Width with
    | false =>
      have e : jKa t = 2 := by rw [jNp, h1, h2]; rfl
      rw [e]; rfl
    | true =>
      have e : jKa t = 0 := by rw [jNp, h1, h2]; rfl
      have pt := qJc e
      rw [e, if_pos rfl, Bool.not_true, cnF]
      cases b with
      | none => exact hf
      | some x =>
        have px := qJc (hb x rfl)
        simp only [Option.isSome_some, cnT, bS, jP5, jQr]
        rw [jN3 (n := t.X - x.X) (by omega) (by omega), jN3 (n := 2 * (t.X - x.X)) (by omega) (by omega), jN3 (n := t.Width + x.Width) (by omega) (by omega)]
        by_cases h3 : t.X ≤ x.X
        · have e3 : jF8 x t = 10 := by unfold jF8; exact if_pos h3
          rw [dT (by omega), e3]; rfl
        · rw [dF (by omega), cnF]
          by_cases h4 : 2 * (t.X - x.X) < t.Width + x.Width
          · have e4 : jF8 x t = 17 := by unfold jF8; rw [if_neg h3]; exact if_pos h4
            rw [dT h4, e4]; rfl
          · have e4 : jF8 x t = 0 := by unfold jF8; rw [if_neg h3]; exact if_neg h4
            rw [dF h4, e4, if_pos rfl]
            exact hf
def jL2 (l : List jJy) (i : Nat) : Int := jNd (if i = 0 then none else some l[i - 1]!) l[i]!
theorem qQ8 {l : List jJy} {i : Nat} (h : jL2 l i = 0) : jKa l[i]! = 0 := by
 unfold jL2 jNd at h
 split at h
 ·assumption
 ·exact h
def jDt (l : GLoad) (least : Int) : Int := if (inR least 1000000000 l.Mass && inR (-1000000) 1000000 l.X && inR (-100000) 100000 l.Z && inR 0 1000000000 l.Free) = true then 0 else 2
theorem jAj {N : Nat} {l : GLoad} {least : Int} : jVj N l least = some (jDt l least) := by
 unfold jVj jDt
 simp only [jK9, bS]
 cases inR least 1000000000 l.Mass <;> cases inR (-1000000) 1000000 l.X <;> cases inR (-100000) 100000 l.Z <;> cases inR 0 1000000000 l.Free <;> rfl
def nmF (s : GShip) : Nat → Str
 | 0 => s.Light.Name
 | k + 1 => s.Items[k]!.Name
def qZs (s : GShip) (i : Nat) : Int := if jBb s.Items[i]!.Name = true then (if dup (nmF s) (i + 1) s.Items[i]!.Name = true then 5 else jDt s.Items[i]! 0) else 4
def jNq (s : GShip) : Int := if jBb s.Light.Name = true then (if jDt s.Light 1 = 0 then (if 60 < s.Items.length then 8 else jXc (qZs s) s.Items.length 0) else jDt s.Light 1) else 4
theorem qZt {N : Nat} {s : GShip} (hl : s.Items.length < 1000000) (hN : 2 ^ 64 ≤ N) : jYs N s = some (jNq s) := by
  unfold jYs jNq
  rw [jTy (by omega), bS, jAj, bS, jW5, jUr]
  cases jBb s.Light.Name with
  | false => rfl
  | true =>
    rw [Bool.not_true, cnF, if_pos rfl]
    by_cases h1 : jDt s.Light 1 = 0
    · rw [dT h1, Bool.not_true, cnF, if_pos h1]
      by_cases h2 : 60 < s.Items.length
      · rw [dT (by omega), cnT, if_pos h2]
      · rw [dF (by omega), cnF, if_neg h2]
        have := jM9 (f := jZ0 N s) (e := qZs s) (N := N) (n := s.Items.length) (fin := Sum.inl ()) (err := fun z => Sum.inr z) (fun i => (seen (nmF s) (i + 1), (i : Int))) (fun i hi _ => by
          unfold jZ0
          simp only [jQr, jW5]
          rw [dT (by omega), cnT, jPz hi, bS, jTy (by omega), bS, qJy, jAj, bS, jNh (by omega)]
          unfold qZs
          cases jBb s.Items[i]!.Name with
          | false => rfl
          | true =>
            simp only [Bool.not_true, cnF, if_true]
            cases dup (nmF s) (i + 1) s.Items[i]!.Name with
            | true => rfl
            | false =>
              simp only [cnF, Bool.false_eq_true, if_false]
              by_cases h3 : jDt s.Items[i]! 0 = 0
              · rw [dT h3, if_pos h3]; rfl
              · rw [dF h3, if_neg h3]; rfl) (fun _ => by
          unfold jZ0
          simp only [jQr]
          rw [dF (by omega)]; rfl) (by omega)
        rw [show jXf (jZ0 N s) N (jLe ([] : (List (Str × Bool))) s.Light.Name true, 0) = _ from this, bS]
        unfold jL8
        by_cases hz : jXc (qZs s) s.Items.length 0 = 0
        · rw [if_pos hz, hz]; rfl
        · rw [if_neg hz]; rfl
    · rw [dF h1, if_neg h1]; rfl
def jYd (s : GShip) : Int :=
 if jBb s.Name = true then (if (inR 1 1000000 s.Length && inR 1 40 (s.Stations.length : Int)) = true then (if jXc (jL2 s.Stations) s.Stations.length 0 = 0 then jNq s else jXc (jL2 s.Stations) s.Stations.length 0) else 2) else 4
structure jN9 (s : GShip) : Prop where
 st : s.Stations.length < 1000000
 it : s.Items.length < 1000000
 lv : ∀ i, i < s.Stations.length → s.Stations[i]!.Levels.length < 1000000
 hv : ∀ i, i < s.Stations.length → s.Stations[i]!.Halves.length < 1000000
 s6 : s.Stations.length ≤ 6 ∨ 40 < s.Stations.length
 l8 : ∀ i, i < s.Stations.length → s.Stations[i]!.Levels.length ≤ 8 ∨ 30 < s.Stations[i]!.Levels.length
theorem jMc {N : Nat} {s : GShip} (ht : jN9 s) (hN : 2 ^ 64 ≤ N) : jKq N s = some (jYd s) := by
 have h1 := ht.st
 unfold jKq jYd
 rw [jTy (by omega), bS, jK9, bS, jK9]
 cases jBb s.Name with
 | false => rfl
 | true =>
  rw [Bool.not_true, cnF, if_pos rfl]
  cases inR 1 1000000 s.Length with
  | false => rfl
  | true =>
   rw [Bool.not_true, Bool.not_false, cnT, bS, Bool.false_or, Bool.true_and]
   cases inR 1 40 (s.Stations.length : Int) with
   | false => rfl
   | true =>
    rw [Bool.not_true, cnF, if_pos rfl]
    have := jM9 (f := jW0 N s) (e := jL2 s.Stations) (N := N) (n := s.Stations.length) (fin := Sum.inl ()) (err := fun z => Sum.inr z) (fun i => ((if i = 0 then none else some s.Stations[i - 1]!), (i : Int))) (fun i hi hz => by
     unfold jW0
     simp only [jQr, jW5]
     rw [dT (by omega), cnT, jPz hi, bS, jRg (ht.lv i hi) (ht.hv i hi) (fun x hx => by
      by_cases h0 : i = 0
      ·rw [if_pos h0] at hx; cases hx
      ·rw [if_neg h0] at hx; cases hx; exact qQ8 (hz (i - 1) (by omega))) hN, bS, bS, jNh (by omega)]
     rw [show jNd (if i = 0 then none else some s.Stations[i - 1]!) s.Stations[i]! = jL2 s.Stations i from rfl]
     by_cases h3 : jL2 s.Stations i = 0
     ·rw [dT h3, if_pos h3, if_neg (by omega), Nat.add_sub_cancel]; rfl
     ·rw [dF h3, if_neg h3]; rfl) (fun _ => by
     unfold jW0
     simp only [jQr]
     rw [dF (by omega)]; rfl) (by omega)
    rw [show jXf (jW0 N s) N ((none : Option jJy), 0) = _ from this, bS, qZt ht.it hN]
    unfold jL8
    by_cases hz : jXc (jL2 s.Stations) s.Stations.length 0 = 0
    ·rw [if_pos hz, if_pos hz]; rfl
    ·rw [if_neg hz, if_neg hz]; rfl
def smE (l : List jJy) (i : Nat) : Int := if (((decide ((8 : Int) < (l[i]!.Levels.length : Int)) && decide ((l[i]!.Levels.length : Int) ≤ 30)) || decide ((40 : Int) < (l[i]!.Levels.length : Int))) || decide ((40 : Int) < (l[i]!.Halves.length : Int))) = true then 1 else 0
def smI2 (l : List GLoad) (i : Nat) : Int := if decide ((40 : Int) < (l[i]!.Name.length : Int)) = true then 1 else 0
theorem qVm {N : Nat} {s : GShip} (hN : 2 ^ 64 ≤ N) : ∃ b, jU8 N s = some b ∧ (b = true → jN9 s) := by
 unfold jU8
 simp only [jUr, jP5]
 generalize hc : (decide ((40 : Int) < (s.Name.length : Int)) || decide ((40 : Int) < (s.Light.Name.length : Int)) || (decide ((6 : Int) < (s.Stations.length : Int)) && decide ((s.Stations.length : Int) ≤ 40)) || decide ((45 : Int) < (s.Stations.length : Int)) || (decide ((8 : Int) < (s.Items.length : Int)) && decide ((s.Items.length : Int) ≤ 60)) || decide ((205 : Int) < (s.Items.length : Int))) = c
 cases c with
 | true => exact ⟨false, rfl, fun h => by cases h⟩
 | false =>
  simp only [Bool.or_eq_false_iff, Bool.and_eq_false_iff, decide_eq_false_iff_not] at hc
  have h1 : s.Stations.length ≤ 45 := by omega
  have h2 : s.Items.length ≤ 205 := by omega
  rw [cnF, jB2 (f := jW6 N s) (e := smE s.Stations) (n := s.Stations.length) (fin := Sum.inl ()) (err := fun z => Sum.inr false) (fun i hi _ => by
   unfold jW6
   simp only [jQr, jUr, jP5]
   rw [dT (by omega), cnT, jPz hi, bS, jNh (by omega)]
   unfold smE
   generalize (((decide ((8 : Int) < (s.Stations[i]!.Levels.length : Int)) && decide ((s.Stations[i]!.Levels.length : Int) ≤ 30)) || decide ((40 : Int) < (s.Stations[i]!.Levels.length : Int))) || decide ((40 : Int) < (s.Stations[i]!.Halves.length : Int))) = b
   cases b <;> rfl) (fun _ => by
   unfold jW6
   simp only [jQr]
   rw [dF (by omega)]; rfl) (by omega), bS]
  unfold jL8
  by_cases hz : jXc (smE s.Stations) s.Stations.length 0 = 0
  ·rw [if_pos hz, Sum.elim_inl, jB2 (f := jW7 N s) (e := smI2 s.Items) (n := s.Items.length) (fin := Sum.inl ()) (err := fun z => Sum.inr false) (fun i hi _ => by
    unfold jW7
    simp only [jQr, jUr]
    rw [dT (by omega), cnT, jPz hi, bS, jNh (by omega)]
    unfold smI2
    generalize decide ((40 : Int) < (s.Items[i]!.Name.length : Int)) = b
    cases b <;> rfl) (fun _ => by
    unfold jW7
    simp only [jQr]
    rw [dF (by omega)]; rfl) (by omega), bS]
   unfold jL8
   have hs : ∀ i, i < s.Stations.length → (s.Stations[i]!.Levels.length ≤ 8 ∨ 30 < s.Stations[i]!.Levels.length) ∧ s.Stations[i]!.Levels.length ≤ 40 ∧ s.Stations[i]!.Halves.length ≤ 40 := fun i hi => by
    have := jGg hz i (by omega) (by omega)
    unfold smE at this
    split at this
    ·cases this
    ·rename_i hn
     simp only [Bool.or_eq_true, Bool.and_eq_true, decide_eq_true_eq, not_or] at hn
     omega
   by_cases hy : jXc (smI2 s.Items) s.Items.length 0 = 0
   ·rw [if_pos hy]
    exact ⟨true, rfl, fun _ => ⟨by omega, by omega, fun i hi => by have := hs i hi; omega, fun i hi => by have := hs i hi; omega, by omega, fun i hi => (hs i hi).1⟩⟩
   ·rw [if_neg hy]; exact ⟨false, rfl, fun h => by cases h⟩
  ·rw [if_neg hz]; exact ⟨false, rfl, fun h => by cases h⟩
theorem qQn : jH9 (2 ^ 70) = some true := by kernel_rfl
end Go.KB
namespace Go.KB
set_option linter.unusedVariables false
theorem jTe {N : Nat} {s : GShip} (ht : jN9 s) (hN : 2 ^ 64 ≤ N) : jYz N s = some s := by
 have h1 := ht.st
 have h2 := ht.it
 have happ : ∀ x : List Int, x.length < 1000000 → jYc N x = some x := fun x hx => by
  unfold jYc
  rw [jDp (by simp; unfold lim; omega)]; rfl
 unfold jYz
 rw [jDp (by simp; unfold lim; omega), bS, List.nil_append]
 have := jM9 (f := jV2 N s) (e := fun _ => 0) (N := N) (n := s.Stations.length) (fin := s) (err := fun _ => s) (fun i => (({ s with Stations := s.Stations.take i } : GShip), (i : Int))) (fun i hi _ => by
  unfold jV2
  simp only [jQr]
  rw [dT (by omega), cnT, jPz hi, bS, happ _ (ht.lv i hi), bS, happ _ (ht.hv i hi), bS, jDp (by simp; unfold lim; omega), bS, jNh (by omega), List.take_succ_eq_append_getElem hi, bang hi]
  rfl) (fun _ => by
  unfold jV2
  simp only [jQr]
  rw [dF (by omega), List.take_length]; rfl) (by omega)
 rw [jHy] at this
 rw [show jXf (jV2 N s) N (({ ({ s with Stations := ([] : (List jJy)) } : GShip) with Items := s.Items } : GShip), 0) = _ from this]; rfl
end Go.KB
