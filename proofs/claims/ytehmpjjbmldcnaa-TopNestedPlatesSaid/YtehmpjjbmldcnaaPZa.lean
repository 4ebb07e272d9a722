/- Plain laws: loops, comparisons, indices. Plain laws: limits and names. Plain laws of the exact package's natural numbers. Plain laws of the exact package: words, greatest common divisors, division by one limb. Plain laws of the exact package: comparison, division by one limb, fractions of small numbers. Plain laws: digits of lists of limbs; arithmetic of machine integers within their limits. Plain laws: loops that look for the first error, that make a list, that change a list in its place. No condition. -/
import Derived.Test.YtehmpjjbmldcnaaKZb
import Derived.Laws.Bits64
import Derived.Laws.BitsAllLaws
import Derived.Test.YtehmpjjbmldcnaaGPure
namespace Go.KB
theorem bS {α β:Type} {a:α} {f:α→Option β}:(some a).bind f=f a:=rfl
theorem iP {α:Type} {a b:α}:(bif true then a else b)=a:=rfl
theorem iT {α:Type} {a b:α}:(bif false then a else b)=b:=rfl
variable {S O α β:Type}
theorem jb {f:S→Option (S ⊕ O)} (I:S→Prop) (μ:S→Nat) (post:O→Prop)
    (h:∀ s,I s→(∃ s',f s=some (.inl s')∧I s'∧μ s'<μ s)∨∃ o,f s=some (.inr o)∧post o):∀ n s,I s→μ s<n→∃ o,aX f n s=some o∧post o:=by
  intro n
  induction n with
  | zero=>intro s _ h;exact absurd h (Nat.not_lt_zero _)
  | succ n ih =>
    intro s hs hm
    rcases h s hs with ⟨s',e,hs',hm'⟩ | ⟨o,e,hp⟩
    · obtain ⟨o, h1, h2⟩ := ih s' hs' (by omega)
      exact ⟨o,by simp [aX,e,h1],h2⟩
    · exact ⟨o,by simp [aX,e],hp⟩
theorem vZ {f:S→Option (S ⊕ O)} (I:S→Prop) (μ:S→Nat) (r:O) (h:∀ s,I s→(∃ s',f s=some (.inl s')∧I s'∧μ s'<μ s)∨f s=some (.inr r)) (n:Nat) (s:S) (hs:I s) (hm:μ s<n):aX f n s=some r:=by
 obtain ⟨o,h1,rfl⟩:=jb I μ (fun o=>o=r) (fun s hs=>(h s hs).imp id (fun e=>⟨r,e,rfl⟩)) n s hs hm
 exact h1
theorem uS {f:Int→Option (Int ⊕ O)} (m:Nat) (r:O) (P:Nat→Prop) (h:∀ i:Nat,i<m→P i→(f i=some (.inl ((i+1:Nat):Int))∧P (i+1))∨f i=some (.inr r)) (he:P m→f m=some (.inr r)) (h0:P 0) (n:Nat) (hn:m<n):aX f n 0=some r :=
  vZ (fun s:Int=>∃ i:Nat,s=(i:Int)∧i≤m∧P i) (fun s:Int=>m - s.toNat) r (by
    rintro s ⟨i,rfl,hi,hp⟩
    by_cases hlt:i<m
    · rcases h i hlt hp with ⟨e,hp'⟩ | e
      · exact .inl ⟨_,e,⟨i+1,rfl,by omega,hp'⟩,by simp;omega⟩
      · exact .inr e
    · obtain rfl : i = m := by omega
      exact .inr (he hp)) n 0 ⟨0,rfl,Nat.zero_le _,h0⟩ (by simp;omega)
theorem xY {σ:Type} {f:(σ×Int)→Option ((σ×Int) ⊕ O)} (m:Nat) (g:Nat→σ) (r:O) (h:∀ i:Nat,i<m→f (g i,(i:Int))=some (.inl (g (i+1),((i+1:Nat):Int)))) (he:f (g m,(m:Int))=some (.inr r)) (n:Nat) (hn:m<n):aX f n (g 0,0)=some r :=
  vZ (fun s=>∃ i:Nat,s=(g i,(i:Int))∧i≤m) (fun s=>m - s.2.toNat) r (by
    rintro s ⟨i,rfl,hi⟩
    by_cases hlt:i<m
    · exact .inl ⟨_,h i hlt,⟨i+1,rfl,by omega⟩,by simp;omega⟩
    · obtain rfl : i = m := by omega
      exact .inr he) n _ ⟨0,rfl,Nat.zero_le _⟩ (by simp;omega)

theorem yM {n:Int} (h0:-9223372036854775808≤n) (h1:n≤9223372036854775807):IntKind.i64.wrap n=n:=D9 h0 h1
theorem Zo {n:Nat} (h:n≤9223372036854775807):IntKind.i64.wrap (n:Int)=n:=yM (by omega) (by omega)
theorem lY {n:Nat} (h:n<9223372036854775807):IntKind.i64.wrap ((n:Int)+1)=((n+1:Nat):Int):=by rw [yM (by omega) (by omega)];rfl
theorem mO {xs:List α} {i:Nat} (h:i<xs.length):idx xs (i:Int)=some xs[i]:=by
 unfold idx
 rw [if_neg (by omega)]
 simp [h]
@[simp] theorem aW {a b:Int}:aB .lss a b=decide (a<b):=by rfl
@[simp] theorem nZ {a b:Int}:aB .leq a b=decide (a≤b):=by rfl
@[simp] theorem fE {a b:Int}:aB .gtr a b=decide (b<a):=by rfl
@[simp] theorem jD {a b:Int}:aB .geq a b=decide (b≤a):=by rfl
@[simp] theorem lK {a b:Int}:aB .eql a b=decide (a=b):=by rfl
@[simp] theorem lV {a b:Int}:aB .neq a b = !decide (a=b):=by rfl
end Go.KB
namespace Go.KB
def PD (lo hi n:Int):Bool:=decide (lo≤n)&&decide (n≤hi)
def Xu (c:UInt8):Int:=((UInt8.toNat c:Nat):Int)
def xA (c:UInt8):Bool:=(decide (97≤Xu c)&&decide (Xu c≤122))||(decide (65≤Xu c)&&decide (Xu c≤90))
def oV (c:UInt8):Bool:=xA c||decide (Xu c=45)||(decide (48≤Xu c)&&decide (Xu c≤57))
def vH (s:Str):Bool:=match s with | []=>false | c :: r=>decide (r.length<12)&&xA c&&r.all oV
end Go.KB
namespace Go.KB
set_option linter.unusedVariables false
def limbs (n:Nat):List Int:=if h:n=0 then [] else ((n % 65536:Nat):Int) :: limbs (n / 65536)
termination_by n
decreasing_by omega
def val:List Int→Nat
 | []=>0
 | d :: r=>d.toNat+65536 * val r
def sD (l:List Int):Prop:=∀ d ∈ l,0≤d∧d<65536
theorem jB:limbs 0=[]:=by unfold limbs;simp
theorem nV {n:Nat} (h:n≠0):limbs n=((n % 65536:Nat):Int) :: limbs (n / 65536):=by rw [limbs];simp [h]
theorem gm (n:Nat):sD (limbs n):=by
 induction n using Nat.strongRecOn with
 | ind n ih =>
  by_cases h:n=0
  ·subst h;rw [jB];intro d hd;cases hd
  ·rw [nV h]
   intro d hd
   rcases List.mem_cons.1 hd with rfl | hd
   ·omega
   ·exact ih _ (by omega) d hd
theorem iO (n:Nat):val (limbs n)=n:=by
 induction n using Nat.strongRecOn with
 | ind n ih =>
  by_cases h:n=0
  ·subst h;rw [jB];rfl
  ·rw [nV h,val,ih _ (by omega)];omega
theorem MQ {n k:Nat} (h:n<65536 ^ k):(limbs n).length≤k:=by
 induction k generalizing n with
 | zero=>simp at h;subst h;rw [jB];simp
 | succ k ih =>
  by_cases h0:n=0
  ·subst h0;rw [jB];simp
  ·rw [nV h0,List.length_cons]
   have:=ih (n:=n / 65536) (by rw [Nat.div_lt_iff_lt_mul (by decide)];rwa [Nat.pow_succ] at h)
   omega
theorem Iy {n:Nat}:limbs n=[]↔n=0:=by
 constructor
 ·intro h
  by_cases h0:n=0
  ·exact h0
  ·rw [nV h0] at h;cases h
 ·intro h;subst h;exact jB
theorem KU {n:Nat} (h:limbs n≠[]):(limbs n).getLast h≠0:=by
 induction n using Nat.strongRecOn with
 | ind n ih =>
  have h0:n≠0:=fun e=>h (Iy.2 e)
  by_cases h1:limbs (n / 65536)=[]
  ·have:n / 65536=0:=Iy.1 h1
   simp only [nV h0,h1,List.getLast_singleton]
   omega
  ·simp only [nV h0]
   rw [List.getLast_cons h1]
   exact ih _ (by omega) h1
theorem qo {α:Type} {xs ys:List α} (h:xs.length+ys.length≤lim):app xs ys=some (xs ++ ys):=by
 unfold app;rw [Nat.ble_eq_true_of_le h];rfl
theorem Xv {n:Nat} (h:n<18446744073709551616):IntKind.u64.wrap (n:Int)=n:=by rw [IntKind.wrap_u64];omega
theorem Xw {n:Nat}:IntKind.u16.wrap (n:Int)=((n % 65536:Nat):Int):=by rw [IntKind.wrap_u16];omega
theorem X7 {n:Nat} {k:IntKind} (hk:16≤k.bits):vG k (n:Int) 16=some ((n / 65536:Nat):Int):=by
 unfold vG
 rw [if_neg (by decide),show min (Int.toNat 16) k.bits=16 by simp;omega,Int.fdiv_eq_ediv_of_nonneg _ (by decide)]
 rfl
theorem FD {N n:Nat} (h:n<18446744073709551616) (hN:n<N):oO N (n:Int)=some (limbs n):=by
  unfold oO
  rw [vZ (fun s=>∃ k:Nat,s.1=(k:Int)∧k≤n∧s.2 ++ limbs k=limbs n) (fun s=>s.1.toNat) (limbs n) ?_ N _ ⟨n,rfl,Nat.le_refl _,by simp⟩ (by simpa using hN)]
  · rfl
  · rintro ⟨s,acc⟩ ⟨k,hs,hk,hl⟩
    simp only at hs hl;subst hs
    unfold sU
    by_cases h0:k=0
    · subst h0
      refine .inr ?_
      rw [jB,List.append_nil] at hl
      simp [hl]
    · refine .inl ⟨(((k / 65536 : Nat) : Int), acc ++ [((k % 65536 : Nat) : Int)]), ?_, ⟨k / 65536, rfl, by omega, ?_⟩, by simp; omega⟩
      · simp only [fE]
        rw [show decide ((0:Int)<(k:Int))=true by simp;omega,iP,Xw,qo,bS,X7 (by decide),bS]
        have hlen:=congrArg List.length hl
        have:(limbs n).length≤4:=MQ (by simpa using h)
        rw [List.length_append,nV h0] at hlen
        simp only [List.length_cons,List.length_nil] at hlen ⊢
        unfold lim;omega
      · rw [← hl,nV h0];simp

def Norm (l:List Int):Prop:=sD l∧∀ h:l≠[],l.getLast h≠0
theorem QS (n:Nat):Norm (limbs n):=⟨gm n,fun h=>KU h⟩
theorem MV {l:List Int} (h:Norm l):limbs (val l)=l:=by
 induction l with
 | nil=>exact jB
 | cons d r ih =>
  obtain ⟨hd,hl⟩:=h
  have hd0:=hd d List.mem_cons_self
  have hr:Norm r:=⟨fun x hx=>hd x (List.mem_cons_of_mem _ hx),fun hn=>by have:=hl (by simp);rwa [List.getLast_cons hn] at this⟩
  have ih:=ih hr
  have hne:val (d :: r)≠0:=by
   intro e
   simp only [val] at e
   have e1:d.toNat=0:=by omega
   have e2:val r=0:=by omega
   rw [e2,jB] at ih
   have:=hl (by simp)
   subst ih
   simp only [List.getLast_singleton] at this
   omega
  rw [nV hne]
  simp only [val]
  have e1:(d.toNat+65536 * val r) % 65536=d.toNat:=by omega
  have e2:(d.toNat+65536 * val r) / 65536=val r:=by omega
  rw [e1,e2,ih]
  congr 1;omega
theorem val_append (l m:List Int):val (l ++ m)=val l+65536 ^ l.length * val m:=by
 induction l with
 | nil=>simp [val]
 | cons d r ih=>simp only [List.cons_append,val,ih,List.length_cons,Nat.pow_succ,Nat.mul_add,Nat.add_assoc];congr 2;rw [← Nat.mul_assoc,Nat.mul_comm 65536]
theorem GU {α:Type} {xs:List α} {n:Nat} (h:n≤xs.length):MB xs 0 (n:Int)=some (xs.take n):=by
 unfold MB
 rw [show (decide ((0:Int)≤0)&&decide ((0:Int)≤(n:Int))&&decide ((n:Int)≤(xs.length:Int)))=true by simp;omega,iP]
 simp
theorem GX {N:Nat} {l:List Int} (hd:sD l) (hl:l.length<9223372036854775807) (hN:l.length<N):jX N l=some (limbs (val l)):=by
 unfold jX
 rw [vZ (fun s=>sD s∧val s=val l∧s.length≤l.length) (fun s=>s.length) (limbs (val l)) ?_ N _ ⟨hd,rfl,Nat.le_refl _⟩ hN]
 ·rfl
 ·rintro s ⟨hs,hv,hle⟩
  unfold wu
  rcases List.eq_nil_or_concat s with rfl | ⟨r,d,rfl⟩
  ·refine .inr ?_
   simp only [List.length_nil,fE]
   rw [← hv];simp [val,jB]
  ·rw [List.concat_eq_append] at *
   have hlen:(r ++ [d]).length=r.length+1:=by simp
   have hlt:r.length<(r ++ [d]).length:=by omega
   have hi:=mO hlt
   have e1:IntKind.i64.wrap (((r ++ [d]).length:Int) - 1)=((r.length:Nat):Int):=by rw [hlen,yM (by omega) (by omega)];omega
   simp only [e1,hi,fE,lK]
   rw [show decide ((0:Int)<((r ++ [d]).length:Int))=true by rw [hlen,decide_eq_true_eq];omega]
   simp only [iP,bS,Bool.true_and]
   have eg:(r ++ [d])[r.length]=d:=by simp
   rw [eg]
   by_cases h0:d=0
   ·subst h0
    refine .inl ⟨r,?_,⟨fun x hx=>hs x (List.mem_append_left _ hx),?_,by omega⟩,by omega⟩
    ·rw [show decide ((0:Int)=0)=true by decide,iP,GU (by omega)];simp
    ·rw [← hv,val_append];simp [val]
   ·refine .inr ?_
    rw [show decide (d=0)=false by simp [h0],iT,← hv,MV ⟨hs,fun h=>by simp [h0]⟩]
theorem QT {N n:Nat} (hl:(limbs n).length<9223372036854775807) (hN:(limbs n).length<N):jX N (limbs n)=some (limbs n):=by
 rw [GX (gm n) hl hN,iO]
theorem KW {N:Nat} {l:List Int} (hl:l.length≤lim):gX N l=some l:=by
 unfold gX
 rw [qo (by simpa using hl)];rfl
def VD (neg:Bool) (n:Nat):ig:=⟨neg&&decide (n≠0),limbs n⟩
theorem TM {N n:Nat} {neg:Bool} (hl:(limbs n).length≤lim) (hN:(limbs n).length<N):kD N neg (limbs n)=some (VD neg n):=by
  unfold kD
  rw [QT (by unfold lim at hl;omega) hN,bS,lK]
  by_cases h0:n=0
  · subst h0;rw [jB];simp [VD,jB]
  · rw [show decide (((limbs n).length : Int) = 0) = false by rw [nV h0]; simp; omega, iT, KW hl]
    simp [VD,h0]
end Go.KB
namespace Go.KB
set_option linter.unusedVariables false
theorem or_mul (a d:Nat) (hd:d<65536):65536 * a ||| d=65536 * a+d:=by
 have:=Nat.shiftLeft_add_eq_or_of_lt (i:=16) (b:=d) (by simpa using hd) a
 rw [Nat.shiftLeft_eq] at this
 rw [Nat.mul_comm 65536 a,← this]
theorem ZC {a d:Nat} (hd:d<65536) (h:65536 * a+d<18446744073709551616):iY .or .u64 ((65536 * a:Nat):Int) ((d:Nat):Int)=((65536 * a+d:Nat):Int):=by
 unfold iY
 simp only []
 have e:(BitVec.ofInt IntKind.u64.bits ((65536 * a:Nat):Int) ||| BitVec.ofInt IntKind.u64.bits ((d:Nat):Int)).toNat=65536 * a+d:=by
  rw [BitVec.ofInt_natCast,BitVec.ofInt_natCast,BitVec.toNat_or,BitVec.toNat_ofNat,BitVec.toNat_ofNat]
  show (65536 * a) % 2 ^ 64 ||| d % 2 ^ 64=_
  rw [Nat.mod_eq_of_lt (by omega),Nat.mod_eq_of_lt (by omega),or_mul a d hd]
 rw [e,Xv h]
theorem or32 {a d:Nat} (hd:d<65536) (h:65536 * a+d<4294967296):iY .or .u32 ((65536 * a:Nat):Int) ((d:Nat):Int)=((65536 * a+d:Nat):Int):=by
 unfold iY
 simp only []
 have e:(BitVec.ofInt IntKind.u32.bits ((65536 * a:Nat):Int) ||| BitVec.ofInt IntKind.u32.bits ((d:Nat):Int)).toNat=65536 * a+d:=by
  rw [BitVec.ofInt_natCast,BitVec.ofInt_natCast,BitVec.toNat_or,BitVec.toNat_ofNat,BitVec.toNat_ofNat]
  show (65536 * a) % 2 ^ 32 ||| d % 2 ^ 32=_
  rw [Nat.mod_eq_of_lt (by omega),Nat.mod_eq_of_lt (by omega),or_mul a d hd]
 rw [e,IntKind.wrap_u32];omega
theorem KX {a:Nat} (h:65536 * a<18446744073709551616):yS .u64 (a:Int) 16=some ((65536 * a:Nat):Int):=by
 unfold yS
 rw [if_neg (by decide),show min (Int.toNat 16) IntKind.u64.bits=16 by decide,IntKind.wrap_u64]
 congr 1
 rw [show (2:Int) ^ 16=65536 by decide];omega
theorem PV {a:Nat} (h:65536 * a<4294967296):yS .u32 (a:Int) 16=some ((65536 * a:Nat):Int):=by
 unfold yS
 rw [if_neg (by decide),show min (Int.toNat 16) IntKind.u32.bits=16 by decide,IntKind.wrap_u32]
 congr 1
 rw [show (2:Int) ^ 16=65536 by decide];omega
theorem tu {l:List Int} (h:sD l):val l<65536 ^ l.length:=by
 induction l with
 | nil=>simp [val]
 | cons d r ih =>
  have hd:=h d List.mem_cons_self
  have:=ih (fun x hx=>h x (List.mem_cons_of_mem _ hx))
  simp only [val,List.length_cons,Nat.pow_succ]
  have:d.toNat<65536:=by omega
  have:65536 * val r+65536≤65536 ^ r.length * 65536:=by
   rw [Nat.mul_comm (65536 ^ r.length)]
   exact Nat.mul_le_mul_left 65536 (by omega:val r+1≤65536 ^ r.length)
  omega
theorem Jw {l:List Int} (h:sD l) {i:Nat} (hi:i<l.length):∃ d:Nat,l[i]=(d:Int)∧d<65536∧val (l.drop i)=d+65536 * val (l.drop (i+1)):=by
 have:=h _ (List.getElem_mem hi)
 refine ⟨l[i].toNat,by omega,by omega,?_⟩
 rw [List.drop_eq_getElem_cons hi];rfl
theorem GY {l:List Int} (h:sD l) (i:Nat):sD (l.drop i):=fun d hd=>h d (List.mem_of_mem_drop hd)
theorem Jy {N:Nat} {l:List Int} (hd:sD l) (hl:l.length≤4) (hN:5≤N):pG N l=some (((val l:Nat):Int),true):=by
 unfold pG
 rw [fE,show decide ((4:Int)<(l.length:Int))=false by rw [decide_eq_false_iff_not];omega,iT]
 rw [vZ (fun s=>∃ k:Nat,k≤l.length∧s=(((val (l.drop k):Nat):Int),(k:Int) - 1)) (fun s=>(s.2+1).toNat) ((val l:Nat):Int) ?_ N _ ⟨l.length,Nat.le_refl _,?_⟩ ?_]
 ·rfl
 ·rintro s ⟨k,hk,rfl⟩
  unfold wz
  cases k with
  | zero =>
   refine .inr ?_
   simp
  | succ k =>
   obtain ⟨d,e,hdl,hv⟩:=Jw hd (i:=k) (by omega)
   have hlt:=tu (GY hd (k+1))
   have hlt2:=tu (GY hd k)
   have hp:65536 ^ (l.drop k).length≤65536 ^ 4:=Nat.pow_le_pow_right (by decide) (by simp;omega)
   have hp4:65536 ^ 4=18446744073709551616:=by decide
   refine .inl ⟨(((val (l.drop k):Nat):Int),(k:Int) - 1),?_,⟨k,by omega,rfl⟩,by simp only [];omega⟩
   have ei:((k+1:Nat):Int) - 1=(k:Int):=by omega
   simp only [ei,jD,mO (show k<l.length by omega),e]
   rw [show decide ((0:Int)≤(k:Int))=true by simp,iP,KX (by omega),bS,bS,Xv (by omega),ZC hdl (by omega),yM (by omega) (by omega),hv,Nat.add_comm]
 ·simp only [List.drop_length,val]
  rw [yM (by omega) (by omega)];rfl
 ·rw [yM (by omega) (by omega)];simp only [];omega
theorem TN {a b:Nat} (h:b≠0):KD (a:Int) (b:Int)=some ((a % b:Nat):Int):=by
 unfold KD
 rw [if_neg (by omega)]
 rfl
theorem VE {N a b : Nat} (f : (Int × Int) → Option ((Int × Int) ⊕ Int)) (hf : ∀ s, f s = bif (aB .gtr s.2 0) then ((KD s.1 s.2).bind fun v5 => some (.inl (s.2, v5))) else (some (.inr s.1))) (hN : b < N) :
    aX f N ((a:Int),(b:Int))=some ((Nat.gcd a b:Nat):Int) :=
  vZ (fun s=>∃ x y:Nat,s=((x:Int),(y:Int))∧Nat.gcd x y=Nat.gcd a b) (fun s=>s.2.toNat) _ (by
    rintro s ⟨x,y,rfl,hg⟩
    rw [hf]
    simp only [fE]
    by_cases h0:y=0
    · subst h0
      refine .inr ?_
      rw [Nat.gcd_zero_right] at hg
      subst hg;rfl
    · refine .inl ⟨((y:Int),((x % y:Nat):Int)),?_,⟨y,x % y,rfl,?_⟩,?_⟩
      · rw [show decide ((0:Int)<(y:Int))=true by rw [decide_eq_true_eq];omega,iP,TN h0,bS]
      · rw [← hg,Nat.gcd_comm y,← Nat.gcd_rec,Nat.gcd_comm]
      · simp only [Int.toNat_natCast]
        exact Nat.mod_lt _ (by omega)) N _ ⟨a,b,rfl,rfl⟩ (by simpa using hN)
end Go.KB
namespace Go.KB
set_option linter.unusedVariables false
theorem Xx {n:Nat} (h:n<4294967296):IntKind.u32.wrap (n:Int)=n:=by rw [IntKind.wrap_u32];omega
theorem VF {N:Nat} {l:List Int} {b:Nat} (hd:sD l) (hb0:b≠0) (hb:b<65536) (hl:l.length≤1000000) (hN:2 ^ 64≤N):vU N l (b:Int)=some (limbs (val l / b),((val l % b:Nat):Int)):=by
  unfold vU
  have hmk:mk 0 (l.length:Int) (l.length:Int)=some (List.replicate l.length (0:Int)):=by
    unfold mk
    rw [show (decide ((0:Int)≤(l.length:Int))&&decide ((l.length:Int)≤(l.length:Int))&&decide ((l.length:Int)≤(lim:Int)))=true by
      simp only [Bool.and_eq_true,decide_eq_true_eq];unfold lim;omega,iP,Int.toNat_natCast]
  rw [hmk,bS]
  obtain ⟨o, ho, hp⟩ := jb (f := rJ N l (b : Int)) (fun s => ∃ k : Nat, k ≤ l.length ∧ s.2.2 = (k : Int) - 1 ∧ s.2.1 = ((val (l.drop k) % b : Nat) : Int) ∧ s.1.length = l.length ∧ sD s.1 ∧ val (s.1.drop k) = val (l.drop k) / b) (fun s => (s.2.2 + 1).toNat)
    (fun o=>o.2=((val l % b:Nat):Int)∧o.1.length=l.length∧sD o.1∧val o.1=val l / b) (by
    rintro ⟨q,rest,i⟩ ⟨k,hk,hi,hr,hq,PW,hv⟩
    simp only at hi hr hq PW hv
    subst hi;subst hr
    unfold rJ
    cases k with
    | zero =>
      refine .inr ⟨(q,((val l % b:Nat):Int)),?_,rfl,hq,PW,by simpa using hv⟩
      simp
    | succ k =>
      refine .inl ?_
      obtain ⟨d,e,hdl,hvl⟩:=Jw hd (i:=k) (by omega)
      have ei:((k+1:Nat):Int) - 1=(k:Int):=by omega
      have hrl:val (l.drop (k+1)) % b<b:=Nat.mod_lt _ (by omega)
      generalize hR:val (l.drop (k+1)) % b=R at *
      have hX:65536 * R+d<4294967296:=by omega
      have hdiv:(65536 * R+d) / b<65536:=by
        rw [Nat.div_lt_iff_lt_mul (by omega)]
        have:65536 * R+65536≤65536 * b:=by
          have:=Nat.mul_le_mul_left 65536 (show R+1≤b by omega);omega
        omega
      have hmod:(65536 * R+d) % b<b:=Nat.mod_lt _ (by omega)
      simp only [ei,jD,mO (show k<l.length by omega),mO (show k<q.length by omega),e]
      rw [show decide ((0:Int)≤(k:Int))=true by rw [decide_eq_true_eq];omega,iP,PV (by omega),bS,bS,Xx (by omega),or32 hdl hX,Xx (by omega)]
      have hquo:Fj .u32 ((65536 * R+d:Nat):Int) (b:Int)=some (((65536 * R+d) / b:Nat):Int):=by
        unfold Fj
        rw [if_neg (by omega),← Int.ofNat_tdiv,Xx (by omega)]
      rw [hquo,bS,bS,TN hb0,bS,Xw,Nat.mod_eq_of_lt hdiv,yM (by omega) (by omega),Int.toNat_natCast]
      have ZE:val (l.drop k) % b=(65536 * R+d) % b:=by
        rw [hvl,← hR,Nat.add_comm]
        conv=>lhs;rw [Nat.add_mod,Nat.mul_mod]
        conv=>rhs;rw [Nat.add_mod,Nat.mul_mod,Nat.mod_mod]
      have ZF:val (l.drop k) / b=(65536 * R+d) / b+65536 * (val (l.drop (k+1)) / b):=by
        have h1:=Nat.div_add_mod (val (l.drop (k+1))) b
        rw [hR] at h1
        have h2:val (l.drop k)=(65536 * R+d)+b * (65536 * (val (l.drop (k+1)) / b)):=by
          rw [hvl]
          have:b * (65536 * (val (l.drop (k+1)) / b))=65536 * (b * (val (l.drop (k+1)) / b)):=by rw [Nat.mul_left_comm]
          omega
        rw [h2,Nat.add_mul_div_left _ _ (by omega)]
      refine ⟨_,rfl,⟨k,by omega,rfl,by rw [ZE],by simp [hq],?_,?_⟩,by simp only [];omega⟩
      · intro x hx
        rcases List.mem_or_eq_of_mem_set hx with h | rfl
        · exact PW x h
        · exact ⟨Int.natCast_nonneg _,Int.ofNat_lt.2 hdiv⟩
      · rw [List.drop_eq_getElem_cons (by simp; omega)]
        simp only [List.getElem_set_self,val,Int.toNat_natCast]
        rw [List.drop_set,if_pos (by omega),hv,ZF]) N (List.replicate l.length (0:Int),(0:Int),IntKind.i64.wrap ((l.length:Int) - 1)) ⟨l.length,Nat.le_refl _,by rw [yM (by omega) (by omega)],by simp [val],by simp,by intro x hx;simp at hx;omega,by simp [val]⟩ (by simp only [];rw [yM (by omega) (by omega)];omega)
  rw [ho,bS]
  obtain ⟨h1,h2,h3,h4⟩:=hp
  have hm:val l % b<b:=Nat.mod_lt _ (by omega)
  rw [GX h3 (by omega) (by omega),bS,h4,h1,Xw,Nat.mod_eq_of_lt (by omega)]

theorem Iz (l:List Int) {k:Nat} (hk:k≤l.length):val l=val (l.take k)+65536 ^ k * val (l.drop k):=by
 have:=val_append (l.take k) (l.drop k)
 rw [List.take_append_drop,List.length_take,Nat.min_eq_left hk] at this
 exact this
theorem uj {l:List Int} (h:sD l) (i:Nat):sD (l.take i):=fun d hd=>h d (List.mem_of_mem_take hd)
theorem Xy {l:List Int} (h:Norm l) (hne:l≠[]):65536 ^ (l.length - 1)≤val l:=by
 rcases List.eq_nil_or_concat l with rfl | ⟨r,d,rfl⟩
 ·exact absurd rfl hne
 ·rw [List.concat_eq_append] at *
  have hd:=h.1 d (by simp)
  have hl:=h.2 hne
  simp at hl
  rw [val_append]
  simp only [List.length_append,List.length_cons,List.length_nil,Nat.zero_add,Nat.add_sub_cancel,val]
  have:1≤d.toNat+65536 * 0:=by omega
  have:=Nat.mul_le_mul_left (65536 ^ r.length) this
  omega
theorem zk {a b:Nat} (h:(limbs a).length<(limbs b).length):a<b:=by
 have h1:=tu (gm a)
 rw [iO] at h1
 have hb:limbs b≠[]:=by intro e;rw [e] at h;simp at h
 have h2:=Xy (QS b) hb
 rw [iO] at h2
 have:=Nat.pow_le_pow_right (n:=65536) (by decide) (show (limbs a).length≤(limbs b).length - 1 by omega)
 omega
theorem IA {l m:List Int} {k:Nat} (hl:sD l) (hm:sD m) (hkl:k<l.length) (hkm:k<m.length) (he:l.drop (k+1)=m.drop (k+1)) (hlt:l[k]<m[k]):val l<val m:=by
 rw [Iz l (show k≤l.length by omega),Iz m (show k≤m.length by omega)]
 obtain ⟨d,e1,_,h1⟩:=Jw hl hkl
 obtain ⟨e,e2,_,h2⟩:=Jw hm hkm
 rw [e1,e2] at hlt
 have h3:=tu (uj hl k)
 rw [List.length_take,Nat.min_eq_left (by omega)] at h3
 rw [h1,h2,he]
 have:d+65536 * val (m.drop (k+1))+1≤e+65536 * val (m.drop (k+1)):=by omega
 have:=Nat.mul_le_mul_left (65536 ^ k) this
 rw [Nat.mul_add,Nat.mul_one] at this
 omega
theorem KY {N a b:Nat} (ha:(limbs a).length≤1000000) (hb:(limbs b).length≤1000000) (hN:2 ^ 64≤N):∃ c,tY N (limbs a) (limbs b)=some c∧(c<0↔a<b)∧(c=0↔a=b):=by
  unfold tY
  by_cases hlen:(limbs a).length=(limbs b).length
  · rw [lV, show (!decide (((limbs a).length : Int) = ((limbs b).length : Int))) = false by rw [hlen]; simp, iT]
    obtain ⟨o, ho, hp⟩ := jb (f := qh N (limbs a) (limbs b)) (fun s => ∃ k : Nat, k ≤ (limbs a).length ∧ s = (k : Int) - 1 ∧ (limbs a).drop k = (limbs b).drop k) (fun s => (s + 1).toNat)
      (fun o=>match o with | .inl _=>a=b | .inr c=>(c<0↔a<b)∧(c=0↔a=b)) (by
      rintro s ⟨k,hk,rfl,he⟩
      unfold qh
      cases k with
      | zero =>
        refine .inr ⟨.inl (),?_,?_⟩
        · simp
        · have : limbs a = limbs b := by simpa using he
          show a=b
          rw [← iO a,← iO b,this]
      | succ k =>
        have ei:((k+1:Nat):Int) - 1=(k:Int):=by omega
        have hka:k<(limbs a).length:=by omega
        have hkb:k<(limbs b).length:=by omega
        have hda:=gm a _ (List.getElem_mem hka)
        have hdb:=gm b _ (List.getElem_mem hkb)
        simp only [ei,jD,mO hka,mO hkb,bS,lV]
        rw [show decide ((0:Int)≤(k:Int))=true by rw [decide_eq_true_eq];omega,iP]
        by_cases heq:(limbs a)[k]=(limbs b)[k]
        · refine .inl ⟨(k : Int) - 1, ?_, ⟨k, by omega, rfl, ?_⟩, by omega⟩
          · rw [show (!decide ((limbs a)[k]=(limbs b)[k]))=false by simp [heq],iT,yM (by omega) (by omega)]
          · rw [List.drop_eq_getElem_cons hka,List.drop_eq_getElem_cons hkb,heq,he]
        · refine .inr ⟨.inr ((limbs a)[k] - (limbs b)[k]),?_,?_⟩
          · rw [show (!decide ((limbs a)[k]=(limbs b)[k]))=true by simp [heq],iP,yM (n:=(limbs a)[k]) (by omega) (by omega),yM (n:=(limbs b)[k]) (by omega) (by omega),yM (by omega) (by omega)]
          · have h1:=IA (gm a) (gm b) hka hkb he
            have h2:=IA (gm b) (gm a) hkb hka he.symm
            rw [iO,iO] at h1 h2
            show (_<0↔_)∧(_=0↔_)
            rcases Int.lt_or_gt_of_ne heq with h | h
            · have:=h1 h;constructor <;> constructor <;> intro _ <;> omega
            · have:=h2 h;constructor <;> constructor <;> intro _ <;> omega) N (IntKind.i64.wrap (((limbs a).length:Int) - 1)) ⟨(limbs a).length,Nat.le_refl _,by rw [yM (by omega) (by omega)],by rw [List.drop_length,hlen,List.drop_length]⟩ (by rw [yM (by omega) (by omega)];omega)
    rw [ho,bS]
    cases o with
    | inl u=>exact ⟨0,rfl,by have:a=b:=hp;subst this;simp,by have:a=b:=hp;subst this;simp⟩
    | inr c=>exact ⟨c,rfl,hp⟩
  · refine ⟨((limbs a).length:Int) - ((limbs b).length:Int),?_,?_⟩
    · rw [lV,show (!decide (((limbs a).length:Int)=((limbs b).length:Int)))=true by simp;omega,iP,yM (by omega) (by omega)]
    · rcases Nat.lt_or_gt_of_ne hlen with h | h
      · have:=zk h;constructor <;> constructor <;> intro _ <;> omega
      · have:=zk h;constructor <;> constructor <;> intro _ <;> omega
theorem BG {b:Nat} (h0:b≠0) (h:b<65536):limbs b=[(b:Int)]:=by
 rw [nV h0,Nat.mod_eq_of_lt h,Nat.div_eq_of_lt h,jB]
theorem QU {N a b:Nat} (hb0:b≠0) (hb:b<65536) (ha:(limbs a).length≤1000000) (hN:2 ^ 64≤N):lG N (limbs a) (limbs b)=some (limbs (a / b),limbs (a % b)):=by
  unfold lG
  obtain ⟨c,hc,hlt,_⟩:=KY (N:=N) ha (show (limbs b).length≤1000000 by rw [BG hb0 hb];simp) hN
  rw [hc,bS,aW]
  by_cases h:a<b
  · rw [show decide (c<0)=true by rw [decide_eq_true_eq];exact hlt.2 h,iP,KW (by unfold lim;omega),bS,Nat.div_eq_of_lt h,Nat.mod_eq_of_lt h,jB]
  · rw [show decide (c < 0) = false by rw [decide_eq_false_iff_not]; exact fun x => h (hlt.1 x), iT, BG hb0 hb, lK]
    rw [show decide ((([(b:Int)].length:Nat):Int)=1)=true by rfl,iP]
    rw [show idx [(b:Int)] 0=some (b:Int) from rfl,bS,VF (gm a) hb0 hb ha hN,bS,iO]
    have hm:a % b<65536:=Nat.lt_trans (Nat.mod_lt _ (by omega)) hb
    rw [GX (l:=[((a % b:Nat):Int)]) (by intro d hd;simp at hd;subst hd;omega) (by simp) (by simp;omega),bS]
    simp only [val,Int.toNat_natCast,Nat.mul_zero,Nat.add_zero]
end Go.KB
namespace Go.KB
set_option linter.unusedVariables false
theorem jd {n:Int} (h0:-9223372036854775808≤n) (h1:n≤9223372036854775807):IntKind.i64.wrap n=n:=D9 h0 h1
theorem GV {n:Int} (h0:0≤n) (h1:n<18446744073709551616):IntKind.u64.wrap n=n:=by rw [IntKind.wrap_u64];omega
theorem ZG {n:Int} (h0:0≤n) (h1:n<4294967296):IntKind.u32.wrap n=n:=by rw [IntKind.wrap_u32];omega
theorem KZ {n:Int}:IntKind.u16.wrap n=n % 65536:=IntKind.wrap_u16 n
theorem Ob {n:Int} {k:IntKind} (hk:16≤k.bits):vG k n 16=some (n / 65536):=by
 unfold vG
 rw [if_neg (by decide),show min (Int.toNat 16) k.bits=16 by simp;omega,Int.fdiv_eq_ediv_of_nonneg _ (by decide)]
 rfl
theorem dT {p:Prop} [Decidable p] (h:p):decide p=true:=decide_eq_true h
theorem dF {p:Prop} [Decidable p] (h:¬p):decide p=false:=decide_eq_false h
def fP (l:List Int) (i:Nat):Nat:=(l.getD i 0).toNat
theorem Ap {l:List Int} {i:Nat} (hi:i<l.length):fP l i=l[i].toNat:=by unfold fP;simp [hi]
theorem zl {l:List Int} {i:Nat} (hi:l.length≤i):fP l i=0:=by unfold fP;simp [hi]
theorem lW {l:List Int} (h:sD l) (i:Nat):fP l i<65536:=by
 by_cases hi:i<l.length
 ·rw [Ap hi];have:=h _ (List.getElem_mem hi);omega
 ·rw [zl (by omega)];omega
theorem CQ {l:List Int} (h:sD l) {i:Nat} (hi:i<l.length):l[i]=((fP l i:Nat):Int):=by
 rw [Ap hi];have:=h _ (List.getElem_mem hi);omega
theorem ny {l:List Int} {i:Nat} (h:sD l) (hi:i<l.length):idx l (i:Int)=some ((fP l i:Nat):Int):=by rw [mO hi,CQ h hi]
theorem dQ (l:List Int) (i:Nat):val (l.take (i+1))=val (l.take i)+65536 ^ i * fP l i:=by
  by_cases hi:i<l.length
  · rw [List.take_succ_eq_append_getElem hi, val_append, Ap hi, List.length_take, Nat.min_eq_left (by omega)]
    simp [val]
  · rw [List.take_of_length_le (by omega),List.take_of_length_le (by omega),zl (by omega)];simp
theorem yL (l:List Int) (i:Nat):val (l.drop i)=fP l i+65536 * val (l.drop (i+1)):=by
 by_cases hi:i<l.length
 ·rw [List.drop_eq_getElem_cons hi,Ap hi];rfl
 ·rw [List.drop_of_length_le (by omega),List.drop_of_length_le (by omega),zl (by omega)];rfl
theorem GZ (l:List Int) (i:Nat):val l=val (l.take i)+65536 ^ i * val (l.drop i):=by
 by_cases hi:i≤l.length
 ·exact Iz l hi
 ·rw [List.take_of_length_le (by omega),List.drop_of_length_le (by omega)];simp [val]
theorem LM {d:Int} {l:List Int} {i:Nat}:fP (d :: l) (i+1)=fP l i:=by simp [fP]
theorem pK {l:List Int} {i:Nat} {d:Int} (hi:i<l.length):fP (l.set i d) i=d.toNat:=by rw [Ap (by simpa using hi)];simp
theorem La {l:List Int} {i j:Nat} {d:Int} (h:i≠j):fP (l.set i d) j=fP l j:=by simp [fP,h]
theorem zn {l:List Int} {i:Nat} {d:Int} (h:sD l) (h0:0≤d) (h1:d<65536):sD (l.set i d):=by
 intro x hx
 rcases List.mem_or_eq_of_mem_set hx with hx | rfl
 ·exact h x hx
 ·exact ⟨h0,h1⟩
theorem Eh {l m:List Int} (h:sD l) (h':sD m):sD (l ++ m):=fun d hd=>(List.mem_append.1 hd).elim (h d) (h' d)
theorem Jz {d:Int} (h0:0≤d) (h1:d<65536):sD [d]:=fun x hx=>by rw [List.mem_singleton] at hx;subst hx;exact ⟨h0,h1⟩
theorem RV:sD []:=fun x hx=>by cases hx
theorem G5 (n:Nat):sD (List.replicate n 0):=fun x hx=>by rw [(List.mem_replicate.1 hx).2];omega
theorem Xz (n:Nat):val (List.replicate n 0)=0:=by induction n with
 | zero=>rfl
 | succ n ih=>simp [List.replicate_succ,val,ih]
theorem RX (n i:Nat):fP (List.replicate n 0) i=0:=by
 by_cases hi:i<n
 ·rw [Ap (by simpa using hi)];simp
 ·exact zl (by simpa using hi)
theorem wQ {l:List Int} {i k:Nat} {d:Int} (h:k≤i):(l.set i d).take k=l.take k:=by rw [List.take_set_of_le h]
theorem Lc (l:List Int) (d:Int):val (l ++ [d])=val l+65536 ^ l.length * d.toNat:=by rw [val_append];simp [val]
theorem XA {l:List Int} {i:Nat} {d:Int} (hi:i<l.length):val (l.set i d)+65536 ^ i * fP l i=val l+65536 ^ i * d.toNat:=by
 induction l generalizing i with
 | nil=>simp at hi
 | cons x l ih =>
  cases i with
  | zero=>simp [val,fP];omega
  | succ i =>
   have:=ih (i:=i) (by simpa using hi)
   rw [List.set_cons_succ,LM]
   simp only [val,Nat.pow_succ]
   grind
theorem zo {l:List Int} {i k:Nat} {d:Int} (h:i<k):(l.set i d).drop k=l.drop k:=by rw [List.drop_set,if_pos h]
theorem VG {n:Nat} (h:limbs n≠[]):fP (limbs n) ((limbs n).length - 1)≠0:=by
 have:=KU h
 have hp:(limbs n).length - 1<(limbs n).length:=by have:=List.length_pos_iff.2 h;omega
 rw [Ap hp,List.getLast_eq_getElem] at *
 have:=gm n _ (List.getElem_mem hp)
 omega
def nl (n:Nat):Nat:=(limbs n).length
theorem Aq (n:Nat):n<65536 ^ nl n:=by have:=tu (gm n);rwa [iO] at this
theorem DZ {n k:Nat} (h:n<65536 ^ k):nl n≤k:=MQ h
theorem uG {m n:Nat} (h:m≤n):nl m≤nl n:=DZ (Nat.lt_of_le_of_lt h (Aq n))
theorem FH (m n:Nat):nl (m * n)≤nl m+nl n:=DZ (by rw [Nat.pow_add];exact Nat.mul_lt_mul'' (Aq m) (Aq n))
theorem VH (m n:Nat):nl (m+n)≤max (nl m) (nl n)+1:=by
 refine DZ ?_
 have h1:=Nat.lt_of_lt_of_le (Aq m) (Nat.pow_le_pow_right (by decide) (Nat.le_max_left (nl m) (nl n)))
 have h2:=Nat.lt_of_lt_of_le (Aq n) (Nat.pow_le_pow_right (by decide) (Nat.le_max_right (nl m) (nl n)))
 rw [Nat.pow_succ];omega
theorem JA:nl 0=0:=by simp [nl,jB]
theorem FI {n:Nat} (h:n≠0):0<nl n:=by unfold nl;rw [nV h];simp
theorem mP (n:Nat):(limbs n).length=nl n:=rfl
theorem PX {l:List Int} {n:Nat} (hd:sD l) (h:val l=n) {N:Nat} (hl:l.length<9223372036854775807) (hN:l.length<N):jX N l=some (limbs n):=by rw [GX hd hl hN,h]
end Go.KB
namespace Go.KB
set_option linter.unusedVariables false
def iM (e:Nat→Int):Nat→Nat→Int
 | 0,_=>0
 | k+1,i=>if e i=0 then iM e k (i+1) else e i
theorem EJ {e:Nat→Int}:∀ {k i:Nat},iM e k i=0→∀ j,i≤j→j<i+k→e j=0:=by
 intro k
 induction k with
 | zero=>intro i _ j h1 h2;omega
 | succ k ih =>
  intro i h j h1 h2
  simp only [iM] at h
  split at h
  ·rename_i h0
   rcases Nat.eq_or_lt_of_le h1 with rfl | h1
   ·exact h0
   ·exact ih h j h1 (by omega)
  ·rename_i h0;exact absurd h h0
def Df {O:Type} (fin:O) (err:Int→O) (z:Int):O:=if z=0 then fin else err z
theorem IZ {e:Nat→Int} {k i:Nat} (h:e i=0):iM e (k+1) i=iM e k (i+1):=by simp [iM,h]
theorem I4 {e:Nat→Int} {k i:Nat} (h:e i≠0):iM e (k+1) i=e i:=by simp [iM,h]
theorem BB {S O:Type} {n N:Nat} {f:S→Option (S ⊕ O)} {e:Nat→Int} {fin:O} {err:Int→O} (g:Nat→S) (hf:∀ i:Nat,i<n→(∀ j,j<i→e j=0)→f (g i)=if e i=0 then some (.inl (g (i+1))) else some (.inr (err (e i)))) (he:(∀ j,j<n→e j=0)→f (g n)=some (.inr fin)) (hN:n<N) :
  aX f N (g 0)=some (Df fin err (iM e n 0)):=by
 have key:∀ k i,i+k=n→(∀ j,j<i→e j=0)→∀ M,k<M→aX f M (g i)=some (Df fin err (iM e k i)):=by
  intro k
  induction k with
  | zero =>
   intro i hi hz M hM
   obtain ⟨M,rfl⟩:∃ m,M=m+1:=⟨M - 1,by omega⟩
   have:i=n:=by omega
   subst this
   simp only [aX,he hz,iM];rfl
  | succ k ih =>
   intro i hi hz M hM
   obtain ⟨M,rfl⟩:∃ m,M=m+1:=⟨M - 1,by omega⟩
   simp only [aX,hf i (by omega) hz]
   by_cases h0:e i=0
   ·rw [if_pos h0,IZ h0]
    exact ih (i+1) (by omega) (fun j hj=>by
     rcases Nat.lt_succ_iff_lt_or_eq.1 hj with h | rfl
     ·exact hz j h
     ·exact h0) M (by omega)
   ·rw [if_neg h0,I4 h0]
    unfold Df
    rw [if_neg h0]
 exact key n 0 (by omega) (fun j hj=>absurd hj (Nat.not_lt_zero _)) N (by omega)
theorem oU {α:Type} [Inhabited α] {l:List α} {i:Nat} (h:i<l.length):l[i]! = l[i]:=by simp [h]
theorem jK {α:Type} [Inhabited α] {l:List α} {i:Nat} (h:i<l.length):idx l (i:Int)=some l[i]!:=by rw [mO h,oU h]
theorem PE {α β:Type} {f:(List β×Int)→Option ((List β×Int) ⊕ List β)} {N:Nat} (l:List α) (g:α→β) (hf:∀ (i:Nat) (hi:i<l.length) (acc:List β),acc.length=i→f (acc,(i:Int))=some (.inl (acc ++ [g l[i]],((i+1:Nat):Int))))
  (he:∀ acc,f (acc,(l.length:Int))=some (.inr acc)) (hN:l.length<N):aX f N ([],0)=some (l.map g):=by
 have:=xY (f:=f) l.length (fun i=>(l.take i).map g) (l.map g) (fun i hi=>by
  rw [hf i hi _ (by rw [List.length_map,List.length_take];omega),List.take_succ_eq_append_getElem hi,List.map_append];rfl) (by rw [List.take_length];exact he _) N hN
 simpa using this
end Go.KB
