/- Plain laws: the total of the loads, of the program. Plain laws: the total of the loads, of the reference. No condition. -/
import Derived.Test.YthoopaegiclfaaaGreatPZe
import Derived.Test.YthoopaegiclfaaaGreatPZf
import Derived.Test.YthoopaegiclfaaaGreatPZi
namespace Go.KB
set_option linter.unusedVariables false
set_option maxRecDepth 100000
structure LdOk (least : Int) (l : GLoad) : Prop where
 m0 : least ≤ l.Mass
 m1 : l.Mass ≤ 1000000000
 x0 : -1000000 ≤ l.X
 x1 : l.X ≤ 1000000
 z0 : -100000 ≤ l.Z
 z1 : l.Z ≤ 100000
 f0 : 0 ≤ l.Free
 f1 : l.Free ≤ 1000000000
theorem LdOk.of {l : GLoad} {least : Int} (h : jDt l least = 0) : LdOk least l := by
 unfold jDt at h
 split at h
 ·rename_i hp
  simp only [Bool.and_eq_true, jF3] at hp
  obtain ⟨⟨⟨h1, h2⟩, h3⟩, h4⟩ := hp
  exact ⟨h1.1, h1.2, h2.1, h2.2, h3.1, h3.2, h4.1, h4.2⟩
 ·cases h
def ldsL (s : GShip) : List GLoad := s.Light :: s.Items
theorem qWb {s : GShip} (h : jNq s = 0) : s.Items.length ≤ 60 ∧ LdOk 1 s.Light ∧ ∀ i, i < (ldsL s).length → LdOk 0 (ldsL s)[i]! := by
  unfold jNq at h
  split at h
  · split at h
    · rename_i hn
      split at h
      · cases h
      · rename_i hl
        have h1 := LdOk.of hn
        refine ⟨by omega, h1, fun i hi => ?_⟩
        cases i with
        | zero => exact ⟨by have := h1.m0; show 0 ≤ s.Light.Mass; omega, h1.m1, h1.x0, h1.x1, h1.z0, h1.z1, h1.f0, h1.f1⟩
        | succ i =>
          have hi' : i < s.Items.length := by simpa [ldsL] using hi
          have := jGg h i (by omega) (by omega)
          unfold qZs at this
          split at this
          · split at this
            · cases this
            · rw [show (ldsL s)[i + 1]! = s.Items[i]! by simp [ldsL]]
              exact LdOk.of this
          · cases this
    · rename_i hn; exact absurd h hn
  · cases h
section
variable (s : GShip)
end
section
variable {s : GShip} (h : jNq s = 0)
include h
end
def zeroS : jXh := ⟨jAz, jAz, jAz, jAz⟩
end Go.KB
namespace Go.KB
set_option linter.unusedVariables false
set_option maxRecDepth 100000
section
variable {s : GShip} (h : jNq s = 0)
include h
end
structure LenS (h : jXh) : Prop where
 a1 : Len h.KM
 a2 : Len h.KG
 a3 : Len h.GM
 a4 : Len h.Other
theorem LenS.zero : LenS zeroS := ⟨Len.zero, Len.zero, Len.zero, Len.zero⟩
end Go.KB
