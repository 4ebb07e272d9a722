/- Plain laws of the base package: integers and fractions, comparisons. No condition. -/
import Derived.Test.YtehmpjjbmldcnaaPZc
namespace Go.KB
set_option linter.unusedVariables false
theorem PZ {N n:Nat} (h:n<18446744073709551616) (hN:2 ^ 64≤N):uY N (n:Int)=some (limbs n):=by
 unfold uY
 rw [vZ (fun s=>∃ k:Nat,s.1=(k:Int)∧k≤n∧s.2 ++ limbs k=limbs n) (fun s=>s.1.toNat) (limbs n) ?_ N _ ⟨n,rfl,Nat.le_refl _,by simp⟩ (by simp only [];omega)]
 ·rfl
 ·rintro ⟨s,acc⟩ ⟨k,hs,hk,hl⟩
  simp only at hs hl;subst hs
  unfold wo
  simp only [fE]
  by_cases h0:k=0
  ·subst h0
   refine .inr ?_
   rw [jB,List.append_nil] at hl
   rw [hl];rfl
  ·have hlen:=congrArg List.length hl
   have:nl n≤4:=DZ (by omega)
   rw [List.length_append,mP,mP] at hlen
   rw [dT (by omega),iP,VN (by omega),Xw,Nat.mod_mod,qo (by simp;unfold lim;omega),bS,X7 (by decide),bS]
   refine .inl ⟨_,rfl,⟨k / 65536,rfl,by omega,?_⟩,by simp only [];omega⟩
   rw [← hl,nV h0];simp
theorem Z_I {N:Nat} {z:Int} (h0:-9223372036854775808≤z) (h1:z≤9223372036854775807) (hN:2 ^ 64≤N):Ba N z=some (I z):=by
  unfold Ba
  rw [aW]
  by_cases hz:z<0
  · have e:IntKind.u64.wrap (IntKind.u64.wrap (IntKind.i64.wrap (0 - IntKind.i64.wrap (z+1)))+1)=((z.natAbs:Nat):Int):=by
      rw [jd (n:=z+1) (by omega) (by omega),jd (by omega) (by omega),GV (n:=0 - (z+1)) (by omega) (by omega),GV (by omega) (by omega)];omega
    rw [dT hz,iP,e,PZ (by omega) hN,bS]
    unfold I;rw [dT hz]
  · have e : IntKind.u64.wrap z = ((z.natAbs : Nat) : Int) := by rw [GV (by omega) (by omega)]; omega
    rw [dF hz,iT,e,PZ (by omega) hN,bS]
    unfold I;rw [dF hz]
theorem W_R {N:Nat} {z:Int} (h0:-9223372036854775808≤z) (h1:z≤9223372036854775807) (hN:2 ^ 64≤N):Bc N z=some (R (z:Rat)):=by
 unfold Bc
 rw [Z_I h0 h1 hN,bS,Z_I (by omega) (by omega) hN,bS]
 unfold R;rw [Rat.num_intCast,Rat.den_intCast];rfl
theorem RN (p q:Rat):decide (0<XB p q)=decide (q<p):=by
 unfold XB VO
 rw [decide_eq_decide]
 split
 ·grind
 ·split <;> grind
end Go.KB
