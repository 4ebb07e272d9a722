/- Plain laws of the base package: integers and fractions, comparisons. No condition. -/
import Derived.Test.YtcoggcadlinmdaaGreatDoorPZc
namespace Go.KB
set_option linter.unusedVariables false
theorem qQa {N n : Nat} (h : n < 18446744073709551616) (hN : 2 ^ 64 ≤ N) : jUx N (n : Int) = some (limbs n) := by
 unfold jUx
 rw [qQp (fun s => ∃ k : Nat, s.1 = (k : Int) ∧ k ≤ n ∧ s.2 ++ limbs k = limbs n) (fun s => s.1.toNat) (limbs n) ?_ N _ ⟨n, rfl, Nat.le_refl _, by simp⟩ (by simp only []; omega)]
 ·rfl
 ·rintro ⟨s, acc⟩ ⟨k, hs, hk, hl⟩
  simp only at hs hl; subst hs
  unfold jU0
  simp only [jKv]
  by_cases h0 : k = 0
  ·subst h0
   refine .inr ?_
   rw [jD4, List.append_nil] at hl
   rw [hl]; rfl
  ·have hlen := congrArg List.length hl
   have : nl n ≤ 4 := qYc (by omega)
   rw [List.length_append, nl_eq, nl_eq] at hlen
   rw [dT (by omega), cnT, and64i (by omega), u16n, Nat.mod_mod, jDf (by simp; unfold lim; omega), bS, shr16 (by decide), bS]
   refine .inl ⟨_, rfl, ⟨k / 65536, rfl, by omega, ?_⟩, by simp only []; omega⟩
   rw [← hl, jNc h0]; simp
theorem Z_I {N : Nat} {z : Int} (h0 : -9223372036854775808 ≤ z) (h1 : z ≤ 9223372036854775807) (hN : 2 ^ 64 ≤ N) : jUb N z = some (I z) := by
  unfold jUb
  rw [jXx]
  by_cases hz : z < 0
  · have e : IntKind.u64.wrap (IntKind.u64.wrap (IntKind.i64.wrap (0 - IntKind.i64.wrap (z + 1))) + 1) = ((z.natAbs : Nat) : Int) := by
      rw [jPe (n := z + 1) (by omega) (by omega), jPe (by omega) (by omega), u64i (n := 0 - (z + 1)) (by omega) (by omega), u64i (by omega) (by omega)]; omega
    rw [dT hz, cnT, e, qQa (by omega) hN, bS]
    unfold I; rw [dT hz]
  · have e : IntKind.u64.wrap z = ((z.natAbs : Nat) : Int) := by rw [u64i (by omega) (by omega)]; omega
    rw [dF hz, cnF, e, qQa (by omega) hN, bS]
    unfold I; rw [dF hz]
end Go.KB
