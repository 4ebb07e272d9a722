/- Plain laws: ships of which an item is moved, of the program. Plain laws: ships with one item more, less or elsewhere. No condition. -/
import Derived.Test.YthoopaegiclfaaaGreatPZg
import Derived.Test.YthoopaegiclfaaaGreatPZe
import Derived.Test.YthoopaegiclfaaaGreatPZb
namespace Go.KB
set_option linter.unusedVariables false
set_option maxRecDepth 100000
theorem jPe {N : Nat} {s : GShip} (ht : jN9 s) (hN : 2 ^ 64 ≤ N) : jYq N s = some s := by
 have h1 := ht.st
 have h2 := ht.it
 have happ : ∀ x : List Int, x.length < 1000000 → jXx N x = some x := fun x hx => by
  unfold jXx
  rw [jDp (by simp; unfold lim; omega)]; rfl
 unfold jYq jXq
 rw [jDp (by simp; unfold lim; omega)]
 have := jM9 (f := jVr N s) (e := fun _ => 0) (N := N) (n := s.Stations.length) (fin := s) (err := fun _ => s) (fun i => (({ s with Stations := s.Stations.take i } : GShip), (i : Int))) (fun i hi _ => by
  unfold jVr
  simp only [jQr]
  rw [dT (by omega), cnT, jPz hi, bS, happ _ (ht.lv i hi), bS, happ _ (ht.hv i hi), bS, jDp (by simp; unfold lim; omega), bS, jNh (by omega), List.take_succ_eq_append_getElem hi, bang hi]
  rfl) (fun _ => by
  unfold jVr
  simp only [jQr]
  rw [dF (by omega), List.take_length]; rfl) (by omega)
 rw [jHy] at this
 rw [show jXf (jVr N s) N (({ s with Stations := ([] : (List jJy)) } : GShip), 0) = _ from this]; rfl
def qWd (l : List GLoad) (x : Str) (i : Nat) : Int := if l[i]!.Name = x then (i : Int) + 1 else 0
def fnd (l : List GLoad) (x : Str) : Int := jXc (qWd l x) l.length 0 - 1
theorem jCc (l : List GLoad) (x : Str) : fnd l x = -1 ∨ ∃ i : Nat, i < l.length ∧ fnd l x = (i : Int) ∧ l[i]!.Name = x ∧ ∀ m, m < i → l[m]!.Name ≠ x := by
  unfold fnd
  by_cases h : jXc (qWd l x) l.length 0 = 0
  · exact .inl (by omega)
  · obtain ⟨j, _, h2, h3, h4, h5⟩ := jA2 h
    refine .inr ⟨j, by omega, ?_, ?_, fun m hm he => ?_⟩
    · rw [h3]; unfold qWd at h4 ⊢
      split
      · omega
      · rename_i hn; rw [if_neg hn] at h4; exact absurd rfl h4
    · unfold qWd at h4
      split at h4
      · assumption
      · exact absurd rfl h4
    · have := h5 m (by omega) hm
      unfold qWd at this
      rw [if_pos he] at this; omega
theorem jTp {N : Nat} {l : List GLoad} {x : Str} (hl : l.length < 1000000) (hN : 2 ^ 64 ≤ N) : jXn N l (fun y0 => jV4 N y0 x) = some (fnd l x) := by
 unfold jXn
 rw [jB2 (f := jQ3 N l (fun y0 => jV4 N y0 x)) (e := qWd l x) (n := l.length) (fin := Sum.inl ()) (err := fun z => Sum.inr (z - 1)) (fun i hi _ => by
  unfold jQ3 jV4
  simp only [jQr, qJx]
  rw [dT (by omega), cnT, jPz hi, bS, bS, jNh (by omega)]
  unfold qWd
  by_cases h : l[i]!.Name = x
  ·rw [dT h, if_pos h, cnT, if_neg (by omega), show (i : Int) + 1 - 1 = (i : Int) by omega]
  ·rw [dF h, if_neg h]; rfl) (fun _ => by
  unfold jQ3
  simp only [jQr]
  rw [dF (by omega)]; rfl) (by omega), bS]
 unfold jL8 fnd
 by_cases h : jXc (qWd l x) l.length 0 = 0
 ·rw [if_pos h, h]; rfl
 ·rw [if_neg h]; rfl
def jHx : GShip := ⟨[], 0, [], (⟨[], 0, 0, 0, 0⟩ : GLoad), []⟩
theorem jN9.items {s : GShip} (ht : jN9 s) {l : List GLoad} (hl : l.length < 1000000) : jN9 { s with Items := l } := ⟨ht.st, hl, ht.lv, ht.hv, ht.s6, ht.l8⟩
theorem find_eq {N : Nat} {s : GShip} {x : Str} (ht : jN9 s) (hN : 2 ^ 64 ≤ N) :
  jKw N s x = some (if jYd s = 0 then (if fnd s.Items x < 0 then (jHx, 0, 6) else (s, fnd s.Items x, 0)) else (jHx, 0, jYd s)) := by
 unfold jKw
 rw [jMc ht hN, bS, jW5]
 by_cases h : jYd s = 0
 ·rw [dT h, Bool.not_true, cnF, jTp ht.it hN, bS, jQr, if_pos h]
  by_cases h2 : fnd s.Items x < 0
  ·rw [dT h2, if_pos h2]; rfl
  ·rw [dF h2, if_neg h2, cnF, jPe ht hN]; rfl
 ·rw [dF h, if_neg h]; rfl
def there (l : GLoad) (x z : Int) : GLoad := { ({ l with X := x } : GLoad) with Z := z }
def moved (s : GShip) (i : Nat) (x z : Int) : GShip := { s with Items := s.Items.set i (there s.Items[i]! x z) }
theorem qY7 {N : Nat} {s : GShip} {n : Str} {x z : Int} (ht : jN9 s) (hN : 2 ^ 64 ≤ N) :
    jK2 N s n x z = some (if jYd s = 0 then (if fnd s.Items n < 0 then (jHx, 6) else
      (if jDt (there s.Items[(fnd s.Items n).toNat]! x z) 0 = 0 then (moved s (fnd s.Items n).toNat x z, 0) else (jHx, jDt (there s.Items[(fnd s.Items n).toNat]! x z) 0))) else (jHx, jYd s)) := by
  have hl := ht.it
  unfold jK2
  rw [find_eq ht hN, bS]
  by_cases h : jYd s = 0
  · rw [if_pos h, if_pos h]
    rcases jCc s.Items n with h2 | ⟨i, hi, h2, _, _⟩
    · rw [if_pos (by omega), if_pos (by omega)]; rfl
    · rw [if_neg (by omega), if_neg (by omega)]
      dsimp only
      have ei : ∀ (l : List GLoad) (y : GLoad), i < l.length → idx (l.set i y) (i : Int) = some y := fun l y hy => by
        rw [jBg (by simpa using hy)]; simp
      rw [h2, jW5, dT rfl, Bool.not_true, cnF, jPz hi, bS, Int.toNat_natCast, ei _ _ hi, bS, ei _ _ (by simpa using hi), bS, jAj, bS, jW5, List.set_set]
      show (bif !decide (jDt (there s.Items[i]! x z) 0 = 0) then _ else _) = _
      by_cases h3 : jDt (there s.Items[i]! x z) 0 = 0
      · rw [dT h3, if_pos h3]; rfl
      · rw [dF h3, if_neg h3]; rfl
  · rw [if_neg h, if_neg h]
    dsimp only
    rw [jW5, dF h]; rfl

end Go.KB
namespace Go.KB
set_option linter.unusedVariables false
set_option maxRecDepth 100000
def plus (s : GShip) (l : GLoad) : GShip := { s with Items := s.Items ++ [l] }
theorem qYe {N : Nat} {s : GShip} {l : GLoad} (ht : jN9 s) (hN : 2 ^ 64 ≤ N) :
  jG1 N s l = some (if jYd s = 0 then (if jYd (plus s l) = 0 then (plus s l, 0) else (jHx, jYd (plus s l))) else (jHx, jYd s)) := by
 unfold jG1
 rw [jMc ht hN, bS, jW5]
 by_cases h : jYd s = 0
 ·have hi := (qWb (qZ0 h)).1
  rw [dT h, Bool.not_true, cnF, jPe ht hN, bS, jDp (by simp; unfold lim; omega), bS, jMc (ht.items (by simp; omega)) hN, bS, jW5, if_pos h]
  show (bif !decide (jYd (plus s l) = 0) then _ else _) = _
  by_cases h2 : jYd (plus s l) = 0
  ·rw [dT h2, if_pos h2]; rfl
  ·rw [dF h2, if_neg h2]; rfl
 ·rw [dF h, if_neg h]; rfl
def minus (s : GShip) (i : Nat) : GShip := { s with Items := s.Items.take i ++ s.Items.drop (i + 1) }
theorem qQ7 {N : Nat} {l : List GLoad} {i : Nat} (hi : i < l.length) (hl : l.length < 1000000) : jXu N l (i : Int) ((i + 1 : Nat) : Int) = some (l.take i ++ l.drop (i + 1)) := by
 unfold jXu
 have e1 : cut3 (i : Int) ((i + 1 : Nat) : Int) (l.length : Int) (l.length : Int) = some () := by
  unfold cut3
  rw [dT (by omega), dT (by omega), dT (by omega), dT (by omega)]; rfl
 have e2 : ∀ a b : Int, 0 ≤ a → a ≤ b → b ≤ l.length → ∃ z, slc l a b = some z := fun a b h0 h1 h2 => by
  unfold slc
  rw [dT h0, dT h1, dT h2]; exact ⟨_, rfl⟩
 obtain ⟨z1, hz1⟩ := e2 0 (i : Int) (by omega) (by omega) (by omega)
 obtain ⟨z2, hz2⟩ := e2 ((i + 1 : Nat) : Int) (l.length : Int) (by omega) (by omega) (by omega)
 have e3 : delc l (Int.toNat 0) (Int.toNat (i : Int) - Int.toNat 0) (Int.toNat ((i + 1 : Nat) : Int)) (Int.toNat (l.length : Int) - Int.toNat ((i + 1 : Nat) : Int)) = some (l.take i ++ l.drop (i + 1)) := by
  have h1 : (Nat.beq (Int.toNat 0) 0 && Nat.ble (Int.toNat (i : Int) - Int.toNat 0) (Int.toNat ((i + 1 : Nat) : Int)) && Nat.beq (Int.toNat ((i + 1 : Nat) : Int) + (Int.toNat (l.length : Int) - Int.toNat ((i + 1 : Nat) : Int))) l.length) = true := by
   simp only [Bool.and_eq_true, Nat.beq_eq, Nat.ble_eq]
   refine ⟨⟨rfl, ?_⟩, ?_⟩
   ·simp
   ·simp only [Int.toNat_natCast]
    exact Nat.add_sub_cancel' (by omega)
  unfold delc
  rw [h1]; simp
 have hlen : (l.take i ++ l.drop (i + 1)).length ≤ l.length := by simp; omega
 rw [e1, bS, jB9, dF (by omega), cnF, hz1, bS, hz2, bS, e3, bS]
 generalize l.take i ++ l.drop (i + 1) = v at hlen
 have h5 : (Nat.beq (Int.toNat (v.length : Int)) v.length && Nat.ble (Int.toNat (v.length : Int)) (Int.toNat (l.length : Int)) && Nat.ble (Int.toNat (l.length : Int)) l.length && decide (0 ≤ (v.length : Int)) && decide (0 ≤ (l.length : Int))) = true := by
  simp only [Bool.and_eq_true, Nat.beq_eq, Nat.ble_eq, decide_eq_true_eq, Int.toNat_natCast]
  exact ⟨⟨⟨⟨trivial, hlen⟩, Nat.le_refl _⟩, by omega⟩, by omega⟩
 rw [h5]; rfl
theorem qQq {N : Nat} {s : GShip} {x : Str} (ht : jN9 s) (hN : 2 ^ 64 ≤ N) :
    jWb N s x = some (if jYd s = 0 then (if fnd s.Items x < 0 then (jHx, 6) else (minus s (fnd s.Items x).toNat, 0)) else (jHx, jYd s)) := by
  have hl := ht.it
  unfold jWb
  rw [find_eq ht hN, bS]
  by_cases h : jYd s = 0
  · rw [if_pos h, if_pos h]
    rcases jCc s.Items x with h2 | ⟨i, hi, h2, _, _⟩
    · rw [if_pos (by omega), if_pos (by omega)]; rfl
    · rw [if_neg (by omega), if_neg (by omega)]
      dsimp only
      rw [h2, jNh (by omega), qQ7 hi hl]; rfl
  · rw [if_neg h, if_neg h]
    dsimp only
    rw [jW5, dF h]; rfl
theorem jT3 {N : Nat} {l : List Int} (hl : l.length < 1000000) (hN : 2 ^ 64 ≤ N) : jG4 N l l = some true := by
 unfold jG4
 rw [jW5, dT rfl, Bool.not_true, cnF]
 rw [jB2 (f := jKr N l l) (e := fun _ => 0) (n := l.length) (fin := Sum.inl ()) (err := fun z => Sum.inr false) (fun i hi _ => by
  unfold jKr
  simp only [jQr]
  rw [dT (by omega), cnT, jPz hi, bS, bS, jW5, dT rfl, jNh (by omega)]; rfl) (fun _ => by
  unfold jKr
  simp only [jQr]
  rw [dF (by omega)]; rfl) (by omega), jHy]
 rfl
theorem qJq (l : GLoad) : GLoad.eqb l l = true := by
 unfold GLoad.eqb; simp
theorem jCl {N : Nat} {s : GShip} (ht : jN9 s) (hN : 2 ^ 64 ≤ N) : jUa N s s = some true := by
 have h1 := ht.st
 have h2 := ht.it
 unfold jUa
 rw [qJq, qV1, dT rfl]
 simp only [jW5, decide_true, Bool.not_true, Bool.or_self, cnF]
 rw [jB2 (f := jY4 N s s) (e := fun _ => 0) (n := s.Stations.length) (fin := Sum.inl ()) (err := fun z => Sum.inr false) (fun i hi _ => by
  unfold jY4
  simp only [jQr, jW5]
  rw [dT (by omega), cnT, jPz hi, bS, bS, dT rfl, dT rfl, jT3 (ht.lv i hi) hN, jT3 (ht.hv i hi) hN, jNh (by omega)]; rfl) (fun _ => by
  unfold jY4
  simp only [jQr]
  rw [dF (by omega)]; rfl) (by omega), jHy, bS]
 rw [show jL8 (Sum.inl ()) (fun z => Sum.inr false) 0 = (Sum.inl () : Unit ⊕ Bool) from rfl, Sum.elim_inl, jB2 (f := jYr N s s) (e := fun _ => 0) (n := s.Items.length) (fin := Sum.inl ()) (err := fun z => Sum.inr false) (fun i hi _ => by
  unfold jYr
  simp only [jQr]
  rw [dT (by omega), cnT, jPz hi, bS, bS, qJq, jNh (by omega)]; rfl) (fun _ => by
  unfold jYr
  simp only [jQr]
  rw [dF (by omega)]; rfl) (by omega), jHy]
 rfl
end Go.KB
