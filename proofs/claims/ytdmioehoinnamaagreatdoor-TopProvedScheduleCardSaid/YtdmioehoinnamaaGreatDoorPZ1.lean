/- Numerals of whole numbers, words of a line, lines of a text: plain lists of bytes. No condition. -/
import Derived.Test.YtdmioehoinnamaaGreatDoorPZa
import Derived.Test.YtdmioehoinnamaaGreatDoorKZh
namespace Go.KB
set_option linter.unusedVariables false
theorem Qe {d:Nat} (h:d<10):(UInt8.ofNat (48+d)).toNat=48+d:=by
 rw [UInt8.toNat_ofNat'];omega
theorem ND {a d:Nat} {l:List UInt8} (hd:d<10) (ha:a * 10+d<1000000000000000000):Lib.parseUint10 a (UInt8.ofNat (48+d) :: l)=Lib.parseUint10 (a * 10+d) l:=by
 conv=>lhs;unfold Lib.parseUint10
 rw [Qe hd,if_pos (by omega),if_neg (by omega),if_neg (by omega),show 48+d - 48=d by omega]
theorem WJ:∀ (u:Nat) (l:List UInt8),u<1000000000000000000→Lib.parseUint10 0 (Lib.decDigits u ++ l)=Lib.parseUint10 u l:=by
  intro u
  induction u using Nat.strongRecOn with
  | _ u ih =>
    intro l hu
    by_cases h:u<10
    · rw [Lib.decDigits,dif_pos h]
      have:=ND (a:=0) (d:=u) (l:=l) h (by omega)
      rw [Nat.zero_mul,Nat.zero_add] at this
      exact this
    · rw [Lib.decDigits, dif_neg h, List.append_assoc, ih (u / 10) (by omega) _ (by omega)]
      have:=ND (a:=u / 10) (d:=u % 10) (l:=l) (by omega) (by omega)
      rw [show u / 10 * 10+u % 10=u by omega] at this
      exact this
theorem Qg:∀ (u:Nat),∀ b ∈ Lib.decDigits u,48≤b.toNat∧b.toNat≤57:=by
 intro u
 induction u using Nat.strongRecOn with
 | _ u ih =>
  intro b hb
  by_cases h:u<10
  ·rw [Lib.decDigits,dif_pos h,List.mem_singleton] at hb
   rw [hb,Qe h];omega
  ·rw [Lib.decDigits,dif_neg h,List.mem_append,List.mem_singleton] at hb
   rcases hb with hb | hb
   ·exact ih (u / 10) (by omega) b hb
   ·rw [hb,Qe (by omega)];omega
theorem Y9:∀ (u:Nat),Lib.decDigits u≠[]:=by
 intro u
 rw [Lib.decDigits]
 split <;> simp
theorem jJq:∀ (k u:Nat),u<10 ^ (k+1)→(Lib.decDigits u).length≤k+1:=by
 intro k
 induction k with
 | zero=>intro u h;rw [Lib.decDigits,dif_pos (by omega)];simp
 | succ k ih =>
  intro u h
  rw [Lib.decDigits]
  split
  ·simp
  ·rw [List.length_append]
   have:=ih (u / 10) (by rw [Nat.pow_succ] at h;omega)
   simp;omega
theorem NE {n:Int} (h:0≤n):Lib.itoa n=Lib.decDigits n.toNat:=by
 unfold Lib.itoa;rw [if_neg (by omega)]
theorem KD {n:Int} (h:n<0):Lib.itoa n=45 :: Lib.decDigits n.natAbs:=by
 unfold Lib.itoa;rw [if_pos h]
theorem Wx {n:Int}:∀ b ∈ Lib.itoa n,b=45∨(48≤b.toNat∧b.toNat≤57):=by
  intro b hb
  by_cases h:n<0
  · rw [KD h] at hb
    rcases List.mem_cons.1 hb with rfl | hb
    · exact .inl rfl
    · exact .inr (Qg _ b hb)
  · rw [NE (by omega)] at hb
    exact .inr (Qg _ b hb)
theorem RI {n:Int} (h:n.natAbs<10000000000):(Lib.itoa n).length≤11:=by
 have:=jJq 9 n.natAbs (by omega)
 by_cases h:n<0
 ·rw [KD h];simp;omega
 ·rw [NE (by omega),show n.toNat=n.natAbs by omega];omega
theorem OC {n:Int} (h:n.natAbs<1000000000000000000):Lib.atoiAll (Lib.itoa n) = .ok n:=by
  have hp:=WJ n.natAbs [] h
  rw [List.append_nil] at hp
  have h0:=Qg n.natAbs
  by_cases hn:n<0
  · rw [KD hn]
    unfold Lib.atoiAll
    simp only []
    rw [if_pos (show (45:UInt8).toNat=43∨(45:UInt8).toNat=45 from .inr rfl)]
    unfold Lib.parseMag
    rw [if_neg (Y9 _),hp]
    simp only [Lib.parseUint10]
    have e45:(45:UInt8).toNat=45:=rfl
    rw [e45,if_neg (by simp),if_neg (by omega),if_pos rfl]
    congr 1
    omega
  · rw [NE (by omega), show n.toNat = n.natAbs by omega]
    cases hd:Lib.decDigits n.natAbs with
    | nil=>exact absurd hd (Y9 _)
    | cons c r =>
      rw [hd] at hp h0
      have hc:=h0 c List.mem_cons_self
      unfold Lib.atoiAll
      simp only []
      rw [if_neg (show ¬ (c.toNat=43∨c.toNat=45) by omega)]
      unfold Lib.parseMag
      rw [if_neg (by simp),hp]
      simp only [Lib.parseUint10]
      rw [if_neg (by omega),if_neg (by omega),if_neg (by omega)]
      congr 1
      omega
end Go.KB
