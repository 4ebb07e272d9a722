/- Plain laws: names. Plain laws: maps as sets of names, texts that are compared, rows of numbers that are the same. Plain laws: the errors of ships, of the program and of the reference. Plain laws: Check of the program and of the reference, copies of ships, small ships. No condition. -/
import Derived.Test.YtbedbjphickpaaaPZa
import Derived.KernelRfl
namespace Go.KB
set_option linter.unusedVariables false
def nameL (x0 : Str) (s1 : Int) : Option (Int ⊕ (Unit ⊕ Bool)) :=
 bif (cmpI .lss s1 (List.length x0 : Int)) then ((idx x0 s1).bind fun v2 => bif ((!(((cmpI .geq ((UInt8.toNat v2 : Nat) : Int) 97) && (cmpI .leq ((UInt8.toNat v2 : Nat) : Int) 122)) || ((cmpI .geq ((UInt8.toNat v2 : Nat) : Int) 65) && (cmpI .leq ((UInt8.toNat v2 : Nat) : Int) 90)))) && ((cmpI .eql s1 0) || ((cmpI .neq ((UInt8.toNat v2 : Nat) : Int) 45) && ((cmpI .lss ((UInt8.toNat v2 : Nat) : Int) 48) || (cmpI .gtr ((UInt8.toNat v2 : Nat) : Int) 57))))) then (some (.inr (Sum.inr false))) else (some (.inl (IntKind.i64.wrap (s1 + 1))))) else (some (.inr (Sum.inl ())))
def nameF (N : Nat) (x0 : Str) : Option (Bool) :=
 bif ((cmpI .lss (List.length x0 : Int) 1) || (cmpI .gtr (List.length x0 : Int) 12)) then (some false) else ((loopN (nameL x0) N 0).bind fun o5 => Sum.elim (fun l7 => some true) (fun r8 => some r8) o5)
theorem nameF_eq {N : Nat} {s : Str} (hN : 13 ≤ N) : nameF N s = some (isName s) := by
  unfold nameF
  by_cases hlen : s.length < 1 ∨ 12 < s.length
  · have hc : (cmpI .lss (s.length : Int) 1 || cmpI .gtr (s.length : Int) 12) = true := by
      simp; omega
    rw [hc, cond_true]
    congr 1
    unfold isName
    rcases hlen with h | h
    · have : s = [] := List.eq_nil_of_length_eq_zero (by omega)
      subst this; rfl
    · cases s with
      | nil => rfl
      | cons c r => simp at h; simp; intro h'; omega
  · have hc : (cmpI .lss (s.length : Int) 1 || cmpI .gtr (s.length : Int) 12) = false := by
      rw [Bool.or_eq_false_iff]; simp; omega
    rw [hc, cond_false]
    cases s with
    | nil => simp at hlen
    | cons c r =>
      have hr : r.length < 12 := by simp at hlen; omega
      have hbad : ∀ i (hi : i < (c :: r).length), ((!(((cmpI .geq ((UInt8.toNat (c :: r)[i] : Nat) : Int) 97) && (cmpI .leq ((UInt8.toNat (c :: r)[i] : Nat) : Int) 122)) || ((cmpI .geq ((UInt8.toNat (c :: r)[i] : Nat) : Int) 65) && (cmpI .leq ((UInt8.toNat (c :: r)[i] : Nat) : Int) 90)))) && ((cmpI .eql (i : Int) 0) || ((cmpI .neq ((UInt8.toNat (c :: r)[i] : Nat) : Int) 45) && ((cmpI .lss ((UInt8.toNat (c :: r)[i] : Nat) : Int) 48) || (cmpI .gtr ((UInt8.toNat (c :: r)[i] : Nat) : Int) 57))))) =
          !(if i = 0 then isLetter (c :: r)[i] else isNameChar (c :: r)[i]) := by
        intro i hi
        split
        · rename_i h0; subst h0
          simp only [cmp_eql, Int.natCast_zero, decide_true, Bool.true_or, Bool.and_true]
          rfl
        · rename_i h0
          rw [cmp_eql, show decide ((i : Int) = 0) = false by rw [decide_eq_false_iff_not]; omega, Bool.false_or]
          unfold isNameChar isLetter chr
          simp only [cmp_neq, cmp_lss, cmp_gtr, cmp_geq, cmp_leq]
          generalize ((UInt8.toNat (c :: r)[i] : Nat) : Int) = x
          rw [Bool.eq_iff_iff]
          simp only [Bool.and_eq_true, Bool.or_eq_true, Bool.not_eq_true', Bool.or_eq_false_iff, Bool.and_eq_false_iff, decide_eq_true_eq, decide_eq_false_iff_not]
          omega
      rw [loopN_range (c :: r).length (if isName (c :: r) then .inl () else .inr false) (fun i => ∀ j (h : j < (c :: r).length), j < i → (if j = 0 then isLetter (c :: r)[j] else isNameChar (c :: r)[j]) = true) ?_ ?_ (fun j _ h => absurd h (Nat.not_lt_zero _)) N (by simp; omega)]
      · cases isName (c :: r) <;> rfl
      · intro i hi hp
        unfold nameL
        rw [cmp_lss, show decide ((i : Int) < ((c :: r).length : Int)) = true by rw [decide_eq_true_eq]; omega, cond_true, idx_nat hi, bS, hbad i hi, w64s (show i < 9223372036854775807 by simp at hi; omega)]
        cases hg : (if i = 0 then isLetter (c :: r)[i] else isNameChar (c :: r)[i]) with
        | true =>
          refine .inl ⟨rfl, fun j hj hji => ?_⟩
          rcases Nat.lt_succ_iff_lt_or_eq.1 hji with h | rfl
          · exact hp j hj h
          · exact hg
        | false =>
          refine .inr ?_
          have : isName (c :: r) = false := by
            rw [Bool.eq_false_iff]
            intro h
            simp only [isName, Bool.and_eq_true, decide_eq_true_eq] at h
            obtain ⟨⟨_, h1⟩, h2⟩ := h
            rw [List.all_eq_true] at h2
            cases i with
            | zero => simp [h1] at hg
            | succ i =>
              simp at hg
              have := h2 _ (List.getElem_mem (by simpa using hi : i < r.length))
              rw [this] at hg; cases hg
          rw [this]; rfl
      · intro hp
        unfold nameL
        rw [cmp_lss, show decide ((((c :: r).length : Nat) : Int) < ((c :: r).length : Int)) = false by simp, cond_false]
        have : isName (c :: r) = true := by
          simp only [isName, Bool.and_eq_true, decide_eq_true_eq]
          refine ⟨⟨hr, (by have h := hp 0 (by simp) (by simp); rw [if_pos rfl] at h; exact h)⟩, ?_⟩
          rw [List.all_eq_true]
          intro x hx
          obtain ⟨j, hj, rfl⟩ := List.getElem_of_mem hx
          have := hp (j + 1) (by simp; omega) (by simp; omega)
          simpa using this
        rw [this]; rfl
end Go.KB
namespace Go.KB
set_option linter.unusedVariables false
theorem mget_mset {α β : Type} [DecidableEq α] (z : β) (x k : α) (y : β) : ∀ m : List (α × β), mget z (mset m x y) k = if k = x then y else mget z m k
 | [] => by
  by_cases h : k = x
  ·subst h; simp [mget, mset]
  ·simp [mget, mset, h]
 | p :: r => by
  by_cases hp : x = p.1
  ·subst hp
   by_cases h : k = p.1
   ·subst h; simp [mget, mset]
   ·simp [mget, mset, h]
  ·by_cases h : k = p.1
   ·subst h; simp [mget, mset, hp, Ne.symm hp]
   ·simp [mget, mset, hp, h, mget_mset z x k y r]
theorem cmpS_eql (a b : Str) : cmpS .eql a b = decide (a = b) := by
 unfold cmpS
 rw [Bool.eq_iff_iff]
 simp
def dup (nm : Nat → Str) : Nat → Str → Bool
 | 0, _ => false
 | i + 1, x => decide (x = nm i) || dup nm i x
def seen (nm : Nat → Str) : Nat → List (Str × Bool)
 | 0 => []
 | i + 1 => mset (seen nm i) (nm i) true
theorem seen_get (nm : Nat → Str) (x : Str) : ∀ i, mget false (seen nm i) x = dup nm i x
 | 0 => rfl
 | i + 1 => by
  simp only [seen, dup, mget_mset, seen_get nm x i]
  by_cases h : x = nm i <;> simp [h]
def same (nm : Nat → Str) (x : Str) (j : Nat) : Int := if nm j = x then 5 else 0
theorem firstErr_at {e : Nat → Int} : ∀ {k i : Nat}, firstErr e k i ≠ 0 → ∃ j, i ≤ j ∧ j < i + k ∧ firstErr e k i = e j ∧ e j ≠ 0 ∧ ∀ m, i ≤ m → m < j → e m = 0 := by
 intro k
 induction k with
 | zero => intro i h; exact absurd rfl h
 | succ k ih =>
  intro i h
  by_cases h0 : e i = 0
  ·rw [firstErr_s0 h0] at h ⊢
   obtain ⟨j, h1, h2, h3, h4, h5⟩ := ih h
   refine ⟨j, by omega, by omega, h3, h4, fun m hm hj => ?_⟩
   by_cases hmi : m = i
   ·subst hmi; exact h0
   ·exact h5 m (by omega) hj
  ·rw [firstErr_s1 h0]; exact ⟨i, by omega, by omega, rfl, h0, fun m hm hj => by omega⟩
end Go.KB
namespace Go.KB
set_option linter.unusedVariables false
set_option maxRecDepth 100000
instance : Inhabited GStation := ⟨⟨0, 0, [], []⟩⟩
instance : Inhabited GLoad := ⟨⟨[], 0, 0, 0, 0⟩⟩
theorem idx_map {α β : Type} (f : α → β) (l : List α) (n : Int) : idx (l.map f) n = (idx l n).map f := by
 unfold idx
 split
 ·rfl
 ·rw [List.getElem?_map]
theorem hName_loop {N : Nat} {s : Str} : f_hull_isName_L1 N s = nameL s := by
 funext i
 unfold f_hull_isName_L1 nameL
 rw [show (bytesI s).length = s.length by unfold bytesI; rw [List.length_map]]
 unfold bytesI
 rw [idx_map]
 cases idx s i <;> rfl
theorem hName_eq {N : Nat} {s : Str} (hN : 13 ≤ N) : f_hull_isName N s = some (isName s) := by
 rw [← nameF_eq hN]
 unfold f_hull_isName nameF
 rw [hName_loop]
theorem between_eq {N : Nat} {n lo hi : Int} : f_hull_between N n lo hi = some (inR lo hi n) := rfl
def levE (t : GStation) (i : Nat) : Int := if inR 0 100000 t.Levels[i]! = true then (if 0 < i ∧ t.Levels[i]! ≤ t.Levels[i - 1]! then 10 else 0) else 2
def halE (t : GStation) (i : Nat) : Int := if inR 0 100000 t.Halves[i]! = true then 0 else 2
def formErr (t : GStation) : Int :=
 if t.Levels.length < 2 ∨ 30 < t.Levels.length ∨ t.Halves.length + 1 ≠ t.Levels.length then 11
 else if firstErr (levE t) t.Levels.length 0 = 0 then firstErr (halE t) t.Halves.length 0 else firstErr (levE t) t.Levels.length 0
def placeErr (t : GStation) : Int := if inR (-1000000) 1000000 t.X = true ∧ inR 1 100000 t.Width = true then 0 else 2
def nextErr (b t : GStation) : Int := if t.X ≤ b.X then 10 else if 2 * (t.X - b.X) < t.Width + b.Width then 17 else 0
theorem hLev_loop {N : Nat} {t : GStation} (hl : t.Levels.length < 1000000) (hN : 2 ^ 64 ≤ N) : loopN (f_hull_checkStation_L2 N t) N 0 = some (errOr (Sum.inl ()) (fun z => Sum.inr z) (firstErr (levE t) t.Levels.length 0)) := by
  refine loop_err (f := f_hull_checkStation_L2 N t) (e := levE t) (n := t.Levels.length) (fin := Sum.inl ()) (err := fun z => Sum.inr z) (fun i hi _ => ?_) (fun _ => ?_) (by omega)
  · unfold f_hull_checkStation_L2
    simp only [cmp_lss, cmp_gtr, cmp_leq]
    rw [dT (by omega), cond_true, idxB hi, bS, between_eq, bS, w64s (by omega)]
    cases h1 : inR 0 100000 t.Levels[i]! with
    | false =>
      have e : levE t i = 2 := by unfold levE; rw [h1]; rfl
      rw [e]; rfl
    | true =>
      rw [Bool.not_true, cond_false]
      by_cases h0 : i = 0
      · subst h0
        have e : levE t 0 = 0 := by unfold levE; rw [h1, if_pos rfl]; exact if_neg (by omega)
        rw [dF (by omega), cond_false, bS, Bool.false_and, e]; rfl
      · rw [dT (by omega), cond_true, idxP hi h0 hl, bS, Bool.true_and]
        by_cases hc : t.Levels[i]! ≤ t.Levels[i - 1]!
        · have e : levE t i = 10 := by unfold levE; rw [h1, if_pos rfl]; exact if_pos ⟨by omega, hc⟩
          rw [dT hc, e]; rfl
        · have e : levE t i = 0 := by unfold levE; rw [h1, if_pos rfl]; exact if_neg (fun h => hc h.2)
          rw [dF hc, e]; rfl
  · unfold f_hull_checkStation_L2
    simp only [cmp_lss]
    rw [dF (by omega)]; rfl
theorem hHal_loop {N : Nat} {t : GStation} (hl : t.Halves.length < 1000000) (hN : 2 ^ 64 ≤ N) : loopN (f_hull_checkStation_L1 N t) N 0 = some (errOr (Sum.inl ()) (fun z => Sum.inr z) (firstErr (halE t) t.Halves.length 0)) := by
 refine loop_err (f := f_hull_checkStation_L1 N t) (e := halE t) (n := t.Halves.length) (fin := Sum.inl ()) (err := fun z => Sum.inr z) (fun i hi _ => ?_) (fun _ => ?_) (by omega)
 ·unfold f_hull_checkStation_L1 halE
  simp only [cmp_lss]
  rw [dT (by omega), cond_true, idxB hi, bS, between_eq, bS, w64s (by omega)]
  cases inR 0 100000 t.Halves[i]! <;> rfl
 ·unfold f_hull_checkStation_L1
  simp only [cmp_lss]
  rw [dF (by omega)]; rfl
theorem hForm_eq {N : Nat} {t : GStation} (hl : t.Levels.length < 1000000) (hh : t.Halves.length < 1000000) (hN : 2 ^ 64 ≤ N) :
    ((f_hull_between N (List.length t.Levels : Int) 2 30).bind fun v12 => bif ((!v12) || (cmpI .neq (List.length t.Halves : Int) (IntKind.i64.wrap ((List.length t.Levels : Int) - 1)))) then (some 11) else ((loopN (f_hull_checkStation_L2 N t) N 0).bind fun o20 => Sum.elim (fun l22 => (loopN (f_hull_checkStation_L1 N t) N 0).bind fun o29 => Sum.elim (fun l31 => some 0) (fun r32 => some r32) o29) (fun r23 => some r23) o20) : Option Int) = some (formErr t) := by
  rw [between_eq, bS, cmp_neq, w64i (n := (t.Levels.length : Int) - 1) (by omega) (by omega)]
  by_cases hc : t.Levels.length < 2 ∨ 30 < t.Levels.length ∨ t.Halves.length + 1 ≠ t.Levels.length
  · have e : formErr t = 11 := by unfold formErr; exact if_pos hc
    rw [show ((!inR 2 30 (t.Levels.length : Int)) || !decide ((t.Halves.length : Int) = (t.Levels.length : Int) - 1)) = true by simp [inR]; omega, e]; rfl
  · have e : formErr t = if firstErr (levE t) t.Levels.length 0 = 0 then firstErr (halE t) t.Halves.length 0 else firstErr (levE t) t.Levels.length 0 := by unfold formErr; exact if_neg hc
    rw [show ((!inR 2 30 (t.Levels.length : Int)) || !decide ((t.Halves.length : Int) = (t.Levels.length : Int) - 1)) = false by simp [inR]; omega, cond_false, hLev_loop hl hN, bS, hHal_loop hh hN, e]
    unfold errOr
    by_cases h1 : firstErr (levE t) t.Levels.length 0 = 0
    · rw [if_pos h1, if_pos h1, Sum.elim_inl, bS]
      by_cases h2 : firstErr (halE t) t.Halves.length 0 = 0
      · rw [if_pos h2, h2]; rfl
      · rw [if_neg h2]; rfl
    · rw [if_neg h1, if_neg h1]; rfl
theorem place_of {t : GStation} (h : placeErr t = 0) : -1000000 ≤ t.X ∧ t.X ≤ 1000000 ∧ 1 ≤ t.Width ∧ t.Width ≤ 100000 := by
 unfold placeErr at h
 split at h
 ·rename_i hc; simp [inR] at hc; omega
 ·cases h
end Go.KB
namespace Go.KB
set_option linter.unusedVariables false
set_option maxRecDepth 100000
def staErr1 (b : Option GStation) (t : GStation) : Int :=
 if placeErr t = 0 then (match b with | none => formErr t | some x => if nextErr x t = 0 then formErr t else nextErr x t) else placeErr t
theorem place_bool (t : GStation) : placeErr t = if (inR (-1000000) 1000000 t.X && inR 1 100000 t.Width) = true then 0 else 2 := by
 unfold placeErr
 simp only [Bool.and_eq_true]
theorem checkStation_eq {N : Nat} {t : GStation} {b : Option GStation} (hl : t.Levels.length < 1000000) (hh : t.Halves.length < 1000000) (hb : ∀ x, b = some x → placeErr x = 0) (hN : 2 ^ 64 ≤ N) : f_hull_checkStation N t b = some (staErr1 b t) := by
  unfold f_hull_checkStation staErr1
  rw [between_eq, bS, between_eq]
  have hf := hForm_eq (t := t) hl hh hN
  cases h1 : inR (-1000000) 1000000 t.X with
  | false =>
    have e : placeErr t = 2 := by rw [place_bool, h1]; rfl
    rw [e]; rfl
  | true =>
    rw [Bool.not_true, Bool.not_false, cond_true, bS, Bool.false_or]
    cases h2 : inR 1 100000 t.Width with
    | false =>
      have e : placeErr t = 2 := by rw [place_bool, h1, h2]; rfl
      rw [e]; rfl
    | true =>
      have e : placeErr t = 0 := by rw [place_bool, h1, h2]; rfl
      have pt := place_of e
      rw [e, if_pos rfl, Bool.not_true, cond_false]
      cases b with
      | none => exact hf
      | some x =>
        have px := place_of (hb x rfl)
        simp only [Option.isSome_some, cond_true, bS, cmp_leq, cmp_lss]
        rw [w64i (n := t.X - x.X) (by omega) (by omega), w64i (n := 2 * (t.X - x.X)) (by omega) (by omega), w64i (n := t.Width + x.Width) (by omega) (by omega)]
        by_cases h3 : t.X ≤ x.X
        · have e3 : nextErr x t = 10 := by unfold nextErr; exact if_pos h3
          rw [dT (by omega), e3]; rfl
        · rw [dF (by omega), cond_false]
          by_cases h4 : 2 * (t.X - x.X) < t.Width + x.Width
          · have e4 : nextErr x t = 17 := by unfold nextErr; rw [if_neg h3]; exact if_pos h4
            rw [dT h4, e4]; rfl
          · have e4 : nextErr x t = 0 := by unfold nextErr; rw [if_neg h3]; exact if_neg h4
            rw [dF h4, e4, if_pos rfl]
            exact hf
def staErr (l : List GStation) (i : Nat) : Int := staErr1 (if i = 0 then none else some l[i - 1]!) l[i]!
theorem sta_place {l : List GStation} {i : Nat} (h : staErr l i = 0) : placeErr l[i]! = 0 := by
 unfold staErr staErr1 at h
 split at h
 ·assumption
 ·exact h
def numErr (l : GLoad) (least : Int) : Int := if (inR least 1000000000 l.Mass && inR (-1000000) 1000000 l.X && inR (-100000) 100000 l.Z && inR 0 1000000000 l.Free) = true then 0 else 2
theorem hNum_eq {N : Nat} {l : GLoad} {least : Int} : f_hull_checkNumbers N l least = some (numErr l least) := by
 unfold f_hull_checkNumbers numErr
 simp only [between_eq, bS]
 cases inR least 1000000000 l.Mass <;> cases inR (-1000000) 1000000 l.X <;> cases inR (-100000) 100000 l.Z <;> cases inR 0 1000000000 l.Free <;> rfl
def nmF (s : GShip) : Nat → Str
 | 0 => s.Light.Name
 | k + 1 => s.Items[k]!.Name
def itErr (s : GShip) (i : Nat) : Int := if isName s.Items[i]!.Name = true then (if dup (nmF s) (i + 1) s.Items[i]!.Name = true then 5 else numErr s.Items[i]! 0) else 4
def ldsErr (s : GShip) : Int := if isName s.Light.Name = true then (if numErr s.Light 1 = 0 then (if 60 < s.Items.length then 8 else firstErr (itErr s) s.Items.length 0) else numErr s.Light 1) else 4
theorem hLoads_eq {N : Nat} {s : GShip} (hl : s.Items.length < 1000000) (hN : 2 ^ 64 ≤ N) : f_hull_checkLoads N s = some (ldsErr s) := by
  unfold f_hull_checkLoads ldsErr
  rw [hName_eq (by omega), bS, hNum_eq, bS, cmp_neq, cmp_gtr]
  cases isName s.Light.Name with
  | false => rfl
  | true =>
    rw [Bool.not_true, cond_false, if_pos rfl]
    by_cases h1 : numErr s.Light 1 = 0
    · rw [dT h1, Bool.not_true, cond_false, if_pos h1]
      by_cases h2 : 60 < s.Items.length
      · rw [dT (by omega), cond_true, if_pos h2]
      · rw [dF (by omega), cond_false, if_neg h2]
        have := loop_errG (f := f_hull_checkLoads_L1 N s) (e := itErr s) (N := N) (n := s.Items.length) (fin := Sum.inl ()) (err := fun z => Sum.inr z) (fun i => (seen (nmF s) (i + 1), (i : Int))) (fun i hi _ => by
          unfold f_hull_checkLoads_L1
          simp only [cmp_lss, cmp_neq]
          rw [dT (by omega), cond_true, idxB hi, bS, hName_eq (by omega), bS, seen_get, hNum_eq, bS, w64s (by omega)]
          unfold itErr
          cases isName s.Items[i]!.Name with
          | false => rfl
          | true =>
            simp only [Bool.not_true, cond_false, if_true]
            cases dup (nmF s) (i + 1) s.Items[i]!.Name with
            | true => rfl
            | false =>
              simp only [cond_false, Bool.false_eq_true, if_false]
              by_cases h3 : numErr s.Items[i]! 0 = 0
              · rw [dT h3, if_pos h3]; rfl
              · rw [dF h3, if_neg h3]; rfl) (fun _ => by
          unfold f_hull_checkLoads_L1
          simp only [cmp_lss]
          rw [dF (by omega)]; rfl) (by omega)
        rw [show loopN (f_hull_checkLoads_L1 N s) N (mset ([] : (List (Str × Bool))) s.Light.Name true, 0) = _ from this, bS]
        unfold errOr
        by_cases hz : firstErr (itErr s) s.Items.length 0 = 0
        · rw [if_pos hz, hz]; rfl
        · rw [if_neg hz]; rfl
    · rw [dF h1, if_neg h1]; rfl
def shpErr (s : GShip) : Int :=
 if isName s.Name = true then (if (inR 1 1000000 s.Length && inR 1 40 (s.Stations.length : Int)) = true then (if firstErr (staErr s.Stations) s.Stations.length 0 = 0 then ldsErr s else firstErr (staErr s.Stations) s.Stations.length 0) else 2) else 4
structure Tame (s : GShip) : Prop where
 st : s.Stations.length < 1000000
 it : s.Items.length < 1000000
 lv : ∀ i, i < s.Stations.length → s.Stations[i]!.Levels.length < 1000000
 hv : ∀ i, i < s.Stations.length → s.Stations[i]!.Halves.length < 1000000
 s6 : s.Stations.length ≤ 6 ∨ 40 < s.Stations.length
 l8 : ∀ i, i < s.Stations.length → s.Stations[i]!.Levels.length ≤ 8 ∨ 30 < s.Stations[i]!.Levels.length
theorem hCheck_eq {N : Nat} {s : GShip} (ht : Tame s) (hN : 2 ^ 64 ≤ N) : f_hull_Check N s = some (shpErr s) := by
 have h1 := ht.st
 unfold f_hull_Check shpErr
 rw [hName_eq (by omega), bS, between_eq, bS, between_eq]
 cases isName s.Name with
 | false => rfl
 | true =>
  rw [Bool.not_true, cond_false, if_pos rfl]
  cases inR 1 1000000 s.Length with
  | false => rfl
  | true =>
   rw [Bool.not_true, Bool.not_false, cond_true, bS, Bool.false_or, Bool.true_and]
   cases inR 1 40 (s.Stations.length : Int) with
   | false => rfl
   | true =>
    rw [Bool.not_true, cond_false, if_pos rfl]
    have := loop_errG (f := f_hull_Check_L1 N s) (e := staErr s.Stations) (N := N) (n := s.Stations.length) (fin := Sum.inl ()) (err := fun z => Sum.inr z) (fun i => ((if i = 0 then none else some s.Stations[i - 1]!), (i : Int))) (fun i hi hz => by
     unfold f_hull_Check_L1
     simp only [cmp_lss, cmp_neq]
     rw [dT (by omega), cond_true, idxB hi, bS, checkStation_eq (ht.lv i hi) (ht.hv i hi) (fun x hx => by
      by_cases h0 : i = 0
      ·rw [if_pos h0] at hx; cases hx
      ·rw [if_neg h0] at hx; cases hx; exact sta_place (hz (i - 1) (by omega))) hN, bS, bS, w64s (by omega)]
     rw [show staErr1 (if i = 0 then none else some s.Stations[i - 1]!) s.Stations[i]! = staErr s.Stations i from rfl]
     by_cases h3 : staErr s.Stations i = 0
     ·rw [dT h3, if_pos h3, if_neg (by omega), Nat.add_sub_cancel]; rfl
     ·rw [dF h3, if_neg h3]; rfl) (fun _ => by
     unfold f_hull_Check_L1
     simp only [cmp_lss]
     rw [dF (by omega)]; rfl) (by omega)
    rw [show loopN (f_hull_Check_L1 N s) N ((none : Option GStation), 0) = _ from this, bS, hLoads_eq ht.it hN]
    unfold errOr
    by_cases hz : firstErr (staErr s.Stations) s.Stations.length 0 = 0
    ·rw [if_pos hz, if_pos hz]; rfl
    ·rw [if_neg hz, if_neg hz]; rfl
theorem dup_congr {f g : Nat → Str} {x : Str} : ∀ {n : Nat}, (∀ j, j < n → f j = g j) → dup f n x = dup g n x
 | 0, _ => rfl
 | n + 1, h => by rw [dup, dup, h n (by omega), dup_congr (fun j hj => h j (by omega))]
def smE (l : List GStation) (i : Nat) : Int := if (((decide ((8 : Int) < (l[i]!.Levels.length : Int)) && decide ((l[i]!.Levels.length : Int) ≤ 30)) || decide ((40 : Int) < (l[i]!.Levels.length : Int))) || decide ((40 : Int) < (l[i]!.Halves.length : Int))) = true then 1 else 0
def smI2 (l : List GLoad) (i : Nat) : Int := if decide ((40 : Int) < (l[i]!.Name.length : Int)) = true then 1 else 0
theorem small_eq {N : Nat} {s : GShip} (hN : 2 ^ 64 ≤ N) : ∃ b, f_law02_Small N s = some b ∧ (b = true → Tame s) := by
 unfold f_law02_Small
 simp only [cmp_gtr, cmp_leq]
 generalize hc : (decide ((40 : Int) < (s.Name.length : Int)) || decide ((40 : Int) < (s.Light.Name.length : Int)) || (decide ((6 : Int) < (s.Stations.length : Int)) && decide ((s.Stations.length : Int) ≤ 40)) || decide ((45 : Int) < (s.Stations.length : Int)) || (decide ((8 : Int) < (s.Items.length : Int)) && decide ((s.Items.length : Int) ≤ 60)) || decide ((205 : Int) < (s.Items.length : Int))) = c
 cases c with
 | true => exact ⟨false, rfl, fun h => by cases h⟩
 | false =>
  simp only [Bool.or_eq_false_iff, Bool.and_eq_false_iff, decide_eq_false_iff_not] at hc
  have h1 : s.Stations.length ≤ 45 := by omega
  have h2 : s.Items.length ≤ 205 := by omega
  rw [cond_false, loop_err (f := f_law02_Small_L2 N s) (e := smE s.Stations) (n := s.Stations.length) (fin := Sum.inl ()) (err := fun z => Sum.inr false) (fun i hi _ => by
   unfold f_law02_Small_L2
   simp only [cmp_lss, cmp_gtr, cmp_leq]
   rw [dT (by omega), cond_true, idxB hi, bS, w64s (by omega)]
   unfold smE
   generalize (((decide ((8 : Int) < (s.Stations[i]!.Levels.length : Int)) && decide ((s.Stations[i]!.Levels.length : Int) ≤ 30)) || decide ((40 : Int) < (s.Stations[i]!.Levels.length : Int))) || decide ((40 : Int) < (s.Stations[i]!.Halves.length : Int))) = b
   cases b <;> rfl) (fun _ => by
   unfold f_law02_Small_L2
   simp only [cmp_lss]
   rw [dF (by omega)]; rfl) (by omega), bS]
  unfold errOr
  by_cases hz : firstErr (smE s.Stations) s.Stations.length 0 = 0
  ·rw [if_pos hz, Sum.elim_inl, loop_err (f := f_law02_Small_L1 N s) (e := smI2 s.Items) (n := s.Items.length) (fin := Sum.inl ()) (err := fun z => Sum.inr false) (fun i hi _ => by
    unfold f_law02_Small_L1
    simp only [cmp_lss, cmp_gtr]
    rw [dT (by omega), cond_true, idxB hi, bS, w64s (by omega)]
    unfold smI2
    generalize decide ((40 : Int) < (s.Items[i]!.Name.length : Int)) = b
    cases b <;> rfl) (fun _ => by
    unfold f_law02_Small_L1
    simp only [cmp_lss]
    rw [dF (by omega)]; rfl) (by omega), bS]
   unfold errOr
   have hs : ∀ i, i < s.Stations.length → (s.Stations[i]!.Levels.length ≤ 8 ∨ 30 < s.Stations[i]!.Levels.length) ∧ s.Stations[i]!.Levels.length ≤ 40 ∧ s.Stations[i]!.Halves.length ≤ 40 := fun i hi => by
    have := firstErr_zero hz i (by omega) (by omega)
    unfold smE at this
    split at this
    ·cases this
    ·rename_i hn
     simp only [Bool.or_eq_true, Bool.and_eq_true, decide_eq_true_eq, not_or] at hn
     omega
   by_cases hy : firstErr (smI2 s.Items) s.Items.length 0 = 0
   ·rw [if_pos hy]
    exact ⟨true, rfl, fun _ => ⟨by omega, by omega, fun i hi => by have := hs i hi; omega, fun i hi => by have := hs i hi; omega, by omega, fun i hi => (hs i hi).1⟩⟩
   ·rw [if_neg hy]; exact ⟨false, rfl, fun h => by cases h⟩
  ·rw [if_neg hz]; exact ⟨false, rfl, fun h => by cases h⟩
end Go.KB
