/- Plain laws: the total of the loads, of the program. No condition. -/
import Derived.Test.YtbedbjphickpaaaGreatPZe
namespace Go.KB
set_option linter.unusedVariables false
set_option maxRecDepth 100000
structure LdOk (least : Int) (l : GLoad) : Prop where
 m0 : least ≤ l.Mass
 m1 : l.Mass ≤ 1000000000
 x0 : -1000000 ≤ l.X
 x1 : l.X ≤ 1000000
 z0 : -100000 ≤ l.Z
 z1 : l.Z ≤ 100000
 f0 : 0 ≤ l.Free
 f1 : l.Free ≤ 1000000000
theorem LdOk.of {l : GLoad} {least : Int} (h : numErr l least = 0) : LdOk least l := by
 unfold numErr at h
 split at h
 ·rename_i hp
  simp only [Bool.and_eq_true, inR_iff] at hp
  obtain ⟨⟨⟨h1, h2⟩, h3⟩, h4⟩ := hp
  exact ⟨h1.1, h1.2, h2.1, h2.2, h3.1, h3.2, h4.1, h4.2⟩
 ·cases h
def sumI (f : Nat → Int) : Nat → Int
 | 0 => 0
 | n + 1 => sumI f n + f n
theorem sumI_bd {f : Nat → Int} {b : Int} : ∀ {n : Nat}, (∀ k, k < n → 0 ≤ f k ∧ f k ≤ b) → 0 ≤ sumI f n ∧ sumI f n ≤ b * (n : Int) := by
 intro n
 induction n with
 | zero => intro _; simp [sumI]
 | succ n ih =>
  intro h
  have h1 := ih (fun k hk => h k (by omega)); have h2 := h n (by omega)
  rw [sumI]
  have : b * ((n + 1 : Nat) : Int) = b * (n : Int) + b := by rw [Int.natCast_add, Int.mul_add]; simp
  omega
section
variable (s : GShip)
end
section
variable {s : GShip} (h : ldsErr s = 0)
include h
end
end Go.KB
