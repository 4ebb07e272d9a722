/- Plain laws: the total of the loads, of the program. Plain laws: the total of the loads, of the reference. No condition. -/
import Derived.Test.YtoiefhkiipolmaaGreatPZe
import Derived.Test.YtoiefhkiipolmaaGreatPZf
import Derived.Test.YtoiefhkiipolmaaGreatPZi
namespace Go.KB
set_option linter.unusedVariables false
set_option maxRecDepth 100000
structure LdOk (least : Int) (l : jQ2) : Prop where
 m0 : least ≤ l.Mass
 m1 : l.Mass ≤ 1000000000
 x0 : -1000000 ≤ l.X
 x1 : l.X ≤ 1000000
 z0 : -100000 ≤ l.Z
 z1 : l.Z ≤ 100000
 f0 : 0 ≤ l.Free
 f1 : l.Free ≤ 1000000000
theorem LdOk.of {l : jQ2} {least : Int} (h : jL0 l least = 0) : LdOk least l := by
 unfold jL0 at h
 split at h
 ·rename_i hp
  simp only [Bool.and_eq_true, jNt] at hp
  obtain ⟨⟨⟨h1, h2⟩, h3⟩, h4⟩ := hp
  exact ⟨h1.1, h1.2, h2.1, h2.2, h3.1, h3.2, h4.1, h4.2⟩
 ·cases h
def jYr (s : GShip) : List jQ2 := s.Light :: s.Items
theorem jMn {s : GShip} (h : jRq s = 0) : s.Items.length ≤ 60 ∧ LdOk 1 s.Light ∧ ∀ i, i < (jYr s).length → LdOk 0 (jYr s)[i]! := by
  unfold jRq at h
  split at h
  · split at h
    · rename_i hn
      split at h
      · cases h
      · rename_i hl
        have h1 := LdOk.of hn
        refine ⟨by omega, h1, fun i hi => ?_⟩
        cases i with
        | zero => exact ⟨by have := h1.m0; show 0 ≤ s.Light.Mass; omega, h1.m1, h1.x0, h1.x1, h1.z0, h1.z1, h1.f0, h1.f1⟩
        | succ i =>
          have hi' : i < s.Items.length := by simpa [jYr] using hi
          have := jGn h i (by omega) (by omega)
          unfold qQx at this
          split at this
          · split at this
            · cases this
            · rw [show (jYr s)[i + 1]! = s.Items[i]! by simp [jYr]]
              exact LdOk.of this
          · cases this
    · rename_i hn; exact absurd h hn
  · cases h
def jC6 (f : Nat → Int) : Nat → Int
 | 0 => 0
 | n + 1 => jC6 f n + f n
theorem qYa {f : Nat → Int} {b : Int} : ∀ {n : Nat}, (∀ k, k < n → 0 ≤ f k ∧ f k ≤ b) → 0 ≤ jC6 f n ∧ jC6 f n ≤ b * (n : Int) := by
 intro n
 induction n with
 | zero => intro _; simp [jC6]
 | succ n ih =>
  intro h
  have h1 := ih (fun k hk => h k (by omega)); have h2 := h n (by omega)
  rw [jC6]
  have : b * ((n + 1 : Nat) : Int) = b * (n : Int) + b := by rw [Int.natCast_add, Int.mul_add]; simp
  omega
theorem qU7 {N : Nat} {s : GShip} (h1 : s.Items.length ≤ 1000) (hN : 2 ^ 64 ≤ N) : jHf N s = some (jYr s) := by
 unfold jHf jZc
 obtain ⟨M, rfl⟩ : ∃ M, N = M + 3 := ⟨N - 3, by omega⟩
 have e1 : jQ7 (jQ4 (M + 3) [[s.Light], s.Items]) (M + 3) (0, 0) = some (((s.Items.length + 1 : Nat) : Int)) := by
  have a0 : jQ4 (M + 3) [[s.Light], s.Items] (0, 0) = some (.inl (1, 1)) := rfl
  have a1 : jQ4 (M + 3) [[s.Light], s.Items] (1, 1) = some (.inl (((s.Items.length + 1 : Nat) : Int), 2)) := by
   unfold jQ4
   simp only [jQy]
   rw [dT (by simp), cnT, show idx [[s.Light], s.Items] 1 = some s.Items from rfl, bS, w64 (by omega) (by omega), dF (by omega), cnF, w64 (by omega) (by omega)]
   congr 3
   omega
  have a2 : jQ4 (M + 3) [[s.Light], s.Items] (((s.Items.length + 1 : Nat) : Int), 2) = some (.inr (((s.Items.length + 1 : Nat) : Int))) := rfl
  simp only [jQ7, a0, a1, a2]
 rw [e1, bS]
 have e2 : jX5 (M + 3) (((s.Items.length + 1 : Nat) : Int)) = some [] := by
  unfold jX5
  simp only [jQy, jVm, List.length_nil]
  have w1 : IntKind.i64.wrap ((((s.Items.length + 1 : Nat) : Int)) - IntKind.i64.wrap (0 - ((0 : Nat) : Int))) = ((s.Items.length + 1 : Nat) : Int) := by
   rw [w64 (n := 0 - ((0 : Nat) : Int)) (by omega) (by omega), w64 (by omega) (by omega)]; omega
  rw [dF (by omega), cnF, bS, w1, dT (by omega), cnT]
  unfold mkp
  rw [dT (by omega), dT (by unfold lim; omega)]
  simp
 rw [e2, bS]
 have b0 : jXj (M + 3) [[s.Light], s.Items] ([], 0) = some (.inl ([s.Light], 1)) := rfl
 have b1 : jXj (M + 3) [[s.Light], s.Items] ([s.Light], 1) = some (.inl (jYr s, 2)) := by
  unfold jXj
  simp only [jQy]
  rw [dT (by simp), cnT, show idx [[s.Light], s.Items] 1 = some s.Items from rfl, bS, jK8 (by simp; unfold lim; omega), bS]; rfl
 have b2 : jXj (M + 3) [[s.Light], s.Items] (jYr s, 2) = some (.inr (jYr s)) := rfl
 simp only [jQ7, b0, b1, b2, bS]
section
variable (s : GShip)
def ldM (i : Nat) : Int := (jYr s)[i]!.Mass
def ldF (i : Nat) : Int := (jYr s)[i]!.Free
def ldX (i : Nat) : Rat := (((jYr s)[i]!.Mass * (jYr s)[i]!.X : Int) : Rat)
def ldZ (i : Nat) : Rat := (((jYr s)[i]!.Mass * (jYr s)[i]!.Z : Int) : Rat)
def jNn : Int := jC6 (ldM s) (jYr s).length
def qBn : Int := jC6 (ldF s) (jYr s).length
def sxQ : Rat := jKh (ldX s) (jYr s).length
def szQ : Rat := jKh (ldZ s) (jYr s).length
def totQ : jJt := ⟨jNn s, R (sxQ s / (jNn s : Rat)), R (szQ s / (jNn s : Rat)), qBn s⟩
end
section
variable {s : GShip} (h : jRq s = 0)
include h
theorem jR4 : (jYr s).length ≤ 61 := by have := (jMn h).1; simp [jYr]; omega
theorem qBy {i : Nat} (hi : i < (jYr s).length) : -1000000000000000 ≤ (jYr s)[i]!.Mass * (jYr s)[i]!.X ∧ (jYr s)[i]!.Mass * (jYr s)[i]!.X ≤ 1000000000000000 := by
 have hl := (jMn h).2.2 i hi
 have := hl.m0; have := hl.m1; have := hl.x0; have := hl.x1
 have := mulB (a := (jYr s)[i]!.Mass) (b := (jYr s)[i]!.X) (A := 1000000000) (B := 1000000) (by omega) (by omega)
 omega
theorem qHe {i : Nat} (hi : i < (jYr s).length) : -1000000000000000 ≤ (jYr s)[i]!.Mass * (jYr s)[i]!.Z ∧ (jYr s)[i]!.Mass * (jYr s)[i]!.Z ≤ 1000000000000000 := by
 have hl := (jMn h).2.2 i hi
 have := hl.m0; have := hl.m1; have := hl.z0; have := hl.z1
 have := mulB (a := (jYr s)[i]!.Mass) (b := (jYr s)[i]!.Z) (A := 1000000000) (B := 1000000) (by omega) (by omega)
 omega
theorem qBd {i : Nat} (hi : i < (jYr s).length) : Sz 64 (ldX s i) := by have := qBy h hi; exact Sz.i64 (by omega) (by omega)
theorem qBz {i : Nat} (hi : i < (jYr s).length) : Sz 64 (ldZ s i) := by have := qHe h hi; exact Sz.i64 (by omega) (by omega)
theorem sxSz {i : Nat} (hi : i ≤ (jYr s).length) : Sz 4000 (jKh (ldX s) i) := jPy (fun k hk => qBd h hk) hi (Nat.le_trans (Nat.mul_le_mul_left _ (jR4 h)) (by omega))
theorem szSz {i : Nat} (hi : i ≤ (jYr s).length) : Sz 4000 (jKh (ldZ s) i) := jPy (fun k hk => qBz h hk) hi (Nat.le_trans (Nat.mul_le_mul_left _ (jR4 h)) (by omega))
theorem qJe {i : Nat} (hi : i ≤ (jYr s).length) : 0 ≤ jC6 (ldM s) i ∧ jC6 (ldM s) i ≤ 61000000000 := by
 have := qYa (f := ldM s) (b := 1000000000) (n := i) (fun k hk => by have hl := (jMn h).2.2 k (by omega); exact ⟨hl.m0, hl.m1⟩)
 have := jR4 h
 omega
theorem qDq {i : Nat} (hi : i ≤ (jYr s).length) : 0 ≤ jC6 (ldF s) i ∧ jC6 (ldF s) i ≤ 61000000000 := by
 have := qYa (f := ldF s) (b := 1000000000) (n := i) (fun k hk => by have hl := (jMn h).2.2 k (by omega); exact ⟨hl.f0, hl.f1⟩)
 have := jR4 h
 omega
theorem qGt : 1 ≤ jNn s := by
  have h1 : ∀ n, 1 ≤ n → n ≤ (jYr s).length → 1 ≤ jC6 (ldM s) n := by
    intro n
    induction n with
    | zero => intro h; omega
    | succ n ih =>
      intro h1 h2
      rw [jC6]
      by_cases h0 : n = 0
      · subst h0
        have := (jMn h).2.1.m0
        show 1 ≤ 0 + s.Light.Mass
        omega
      · have := ih (by omega) (by omega)
        have : 0 ≤ ldM s n := ((jMn h).2.2 n (by omega)).m0
        omega
  exact h1 _ (by simp [jYr]) (Nat.le_refl _)
theorem qKf : (jNn s : Rat) ≠ 0 := jY8 (by have := qGt h; omega)
theorem qUe : Sz 64 (jNn s : Rat) := by have := qJe h (Nat.le_refl _); exact Sz.i64 (by unfold jNn; omega) (by unfold jNn; omega)
end
def zeroS : jXc := ⟨jGe, jGe, jGe, jGe⟩
end Go.KB
namespace Go.KB
set_option linter.unusedVariables false
set_option maxRecDepth 100000
theorem qKk {N : Nat} {s : GShip} (h1 : s.Items.length ≤ 1000) : jB3 N s = some (jYr s) := by
 unfold jB3
 rw [jK8 (by simp; unfold lim; omega)]; rfl
section
variable {s : GShip} (h : jRq s = 0)
include h
theorem qY3 {N : Nat} (hN : 2 ^ 64 ≤ N) : jBz N s = some (totQ s) := by
  have hl := jR4 h
  have hi60 := (jMn h).1
  unfold jBz
  rw [qKk (by omega), bS, W_R (by omega) (by omega) hN, bS, bS]
  have := jNb (f := jW9 N (jYr s)) (e := fun _ => 0) (N := N) (n := (jYr s).length) (fin := ((⟨jNn s, jGe, jGe, qBn s⟩ : jJt), R (sxQ s), R (szQ s))) (err := fun _ => ((⟨jNn s, jGe, jGe, qBn s⟩ : jJt), R (sxQ s), R (szQ s)))
    (fun i => ((⟨jC6 (ldM s) i, jGe, jGe, jC6 (ldF s) i⟩ : jJt), R (jKh (ldX s) i), R (jKh (ldZ s) i), (i : Int))) (fun i hi _ => by
    have b1 := qBy h hi; have b2 := qHe h hi
    have m1 := qJe h (i := i + 1) (by omega); have f1 := qDq h (i := i + 1) (by omega)
    rw [jC6] at m1 f1
    have em : ldM s i = (jYr s)[i]!.Mass := rfl
    have ef : ldF s i = (jYr s)[i]!.Free := rfl
    unfold jW9
    simp only [jQy]
    rw [dT (by omega), cnT, jP3 hi, bS, bS, bS, bS, w64 (n := (jYr s)[i]!.Mass * (jYr s)[i]!.X) (by omega) (by omega), W_R (by omega) (by omega) hN, bS, show (((jYr s)[i]!.Mass * (jYr s)[i]!.X : Int) : Rat) = ldX s i from rfl,
      jU1 (Qf.R (sxSz h (by omega))) (Qf.R (k := 64) (qBd h hi)) (by omega) hN, bS, bS, bS, w64 (n := (jYr s)[i]!.Mass * (jYr s)[i]!.Z) (by omega) (by omega), W_R (by omega) (by omega) hN, bS, show (((jYr s)[i]!.Mass * (jYr s)[i]!.Z : Int) : Rat) = ldZ s i from rfl,
      jU1 (Qf.R (szSz h (by omega))) (Qf.R (k := 64) (qBz h hi)) (by omega) hN, bS, jLn (by omega)]
    have e1 : IntKind.i64.wrap (jC6 (ldM s) i + (jYr s)[i]!.Mass) = jC6 (ldM s) (i + 1) := by rw [w64 (by omega) (by omega)]; rfl
    have e2 : IntKind.i64.wrap (jC6 (ldF s) i + (jYr s)[i]!.Free) = jC6 (ldF s) (i + 1) := by rw [w64 (by omega) (by omega)]; rfl
    rw [e1, e2]; rfl) (fun _ => by
    unfold jW9
    simp only [jQy]
    rw [dF (by omega)]; rfl) (by omega)
  rw [jSl] at this
  rw [show jQ7 (jW9 N (jYr s)) N ((⟨0, (⟨(⟨false, []⟩ : jQn), (⟨false, []⟩ : jQn)⟩ : jQv), (⟨(⟨false, []⟩ : jQn), (⟨false, []⟩ : jQn)⟩ : jQv), 0⟩ : jJt), R ((0 : Int) : Rat), R ((0 : Int) : Rat), 0) = _ from this]
  unfold jLs
  rw [if_pos rfl, bS]
  dsimp only
  have hm := qJe h (i := (jYr s).length) (Nat.le_refl _)
  have s1 : Sz 4000 (sxQ s) := sxSz h (Nat.le_refl _)
  have s2 : Sz 4000 (szQ s) := szSz h (Nat.le_refl _)
  rw [W_R (by unfold jNn; omega) (by unfold jNn; omega) hN, bS, jAf (Qf.R s1) (Qf.R (qUe h)) (by omega) (qKf h) hN, bS, bS, jAf (Qf.R s2) (Qf.R (qUe h)) (by omega) (qKf h) hN, bS]
  rfl
end
structure LenS (h : jXc) : Prop where
 a1 : Len h.KM
 a2 : Len h.KG
 a3 : Len h.GM
 a4 : Len h.Other
theorem LenS.zero : LenS zeroS := ⟨Len.zero, Len.zero, Len.zero, Len.zero⟩
end Go.KB
