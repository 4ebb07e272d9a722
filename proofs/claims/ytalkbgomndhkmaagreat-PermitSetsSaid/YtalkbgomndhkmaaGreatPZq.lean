/- Plain laws of chapter 7: the open permits are a possible set. The possible sets of permits, in their order. Reachable and Maximal. The greatest sets. The reference's sets of permits, by size and place. No condition. -/
import Derived.Test.YtalkbgomndhkmaaGreatPZo
import Derived.Test.YtalkbgomndhkmaaGreatPZp
namespace Go.KB
set_option linter.unusedVariables false
end Go.KB
namespace Go.KB
set_option linter.unusedVariables false
theorem KP {β:Type} {c:β→β→Option Int} {k:β→β→Int} {xs:List β} (hc:∀ x ∈ xs,∀ y ∈ xs,c x y=some (k x y)) (h1:∀ x y,k x y≤0↔0≤k y x) (h2:∀ x y,k x y=0→x=y) (h3:∀ x y z,k x y≤0→k y z≤0→k x z≤0):DC c xs:=by
 have hl:∀ x ∈ xs,∀ y ∈ xs,Gx c x y=decide (k x y<0):=fun x hx y hy=>by unfold Gx;rw [hc x hx y hy]
 have h0:∀ x,k x x=0:=fun x=>by
  have:=h1 x x
  omega
 refine ⟨fun x hx y hy=>⟨_,hc x hx y hy⟩,fun x hx=>by rw [hl x hx x hx,h0];rfl,fun x hx y hy z hz a b=>?_,fun x hx y hy z hz a b=>?_,fun x hx y hy a b=>?_⟩
 ·rw [hl x hx y hy,decide_eq_true_eq] at a
  rw [hl y hy z hz,decide_eq_true_eq] at b
  rw [hl x hx z hz,decide_eq_true_eq]
  have h4:=h3 x y z (by omega) (by omega)
  by_cases h5:k x z=0
  ·have:=h2 _ _ h5
   subst this
   have h6:=(h1 x y).1 (by omega)
   omega
  ·omega
 ·rw [hl x hx y hy,decide_eq_false_iff_not] at a
  rw [hl y hy z hz,decide_eq_false_iff_not] at b
  rw [hl x hx z hz,decide_eq_false_iff_not]
  have h4:=h3 z y x ((h1 z y).2 (by omega)) ((h1 y x).2 (by omega))
  have h5:=(h1 z x).1 h4
  omega
 ·rw [hl x hx y hy,decide_eq_false_iff_not] at a
  rw [hl y hy x hx,decide_eq_false_iff_not] at b
  refine h2 _ _ ?_
  have h4:=(h1 x y).2 (by omega)
  omega
def zi:List Int→List Int→Int
 | [],[]=>0
 | [],_ :: _=>-1
 | _ :: _,[]=>1
 | x :: a,y :: b=>if x<y then -1 else if y<x then 1 else zi a b
theorem RN:∀ a b,zi a b≤0↔0≤zi b a:=by
 intro a
 induction a with
 | nil=>intro b;cases b <;> simp [zi]
 | cons x a ih =>
  intro b
  cases b with
  | nil=>simp [zi]
  | cons y b =>
   unfold zi
   by_cases h1:x<y
   ·rw [if_pos h1,if_neg (by omega),if_pos h1];decide
   ·rw [if_neg h1]
    by_cases h2:y<x
    ·rw [if_pos h2,if_pos h2];decide
    ·rw [if_neg h2,if_neg h2,if_neg h1];exact ih b
theorem RP:∀ a b,zi a b=0→a=b:=by
 intro a
 induction a with
 | nil=>intro b h;cases b with
  | nil=>rfl
  | cons _ _=>simp [zi] at h
 | cons x a ih =>
  intro b h
  cases b with
  | nil=>simp [zi] at h
  | cons y b =>
   unfold zi at h
   by_cases h1:x<y
   ·rw [if_pos h1] at h;exact absurd h (by decide)
   ·rw [if_neg h1] at h
    by_cases h2:y<x
    ·rw [if_pos h2] at h;exact absurd h (by decide)
    ·rw [if_neg h2] at h
     rw [ih b h,show x=y by omega]
theorem PZ:∀ a b c,zi a b≤0→zi b c≤0→zi a c≤0:=by
 intro a
 induction a with
 | nil=>intro b c _ _;cases c <;> simp [zi]
 | cons x a ih =>
  intro b c h1 h2
  cases b with
  | nil=>simp [zi] at h1
  | cons y b =>
   cases c with
   | nil=>simp [zi] at h2
   | cons z c =>
    unfold zi at h1 h2 ⊢
    by_cases g1:x<y
    ·by_cases g2 : y < z
     ·rw [if_pos (by omega)];decide
     ·rw [if_neg g2] at h2
      by_cases g3:z<y
      ·rw [if_pos g3] at h2;exact absurd h2 (by decide)
      ·rw [if_pos (by omega)];decide
    ·rw [if_neg g1] at h1
     by_cases g3:y<x
     ·rw [if_pos g3] at h1;exact absurd h1 (by decide)
     ·rw [if_neg g3] at h1
      by_cases g2:y<z
      ·rw [if_pos (by omega)];decide
      ·rw [if_neg g2] at h2
       by_cases g4:z<y
       ·rw [if_pos g4] at h2;exact absurd h2 (by decide)
       ·rw [if_neg g4] at h2
        rw [if_neg (by omega),if_neg (by omega)]
        exact ih b c h1 h2
def CU (a b:List Int):Int:=if a.length<b.length then -1 else if b.length<a.length then 1 else zi a b
theorem EL (a b:List Int):CU a b≤0↔0≤CU b a:=by
 unfold CU
 by_cases h1:a.length<b.length
 ·rw [if_pos h1,if_neg (by omega),if_pos h1];decide
 ·rw [if_neg h1]
  by_cases h2:b.length<a.length
  ·rw [if_pos h2,if_pos h2];decide
  ·rw [if_neg h2,if_neg h2,if_neg h1];exact RN a b
theorem KQ (a b:List Int) (h:CU a b=0):a=b:=by
 unfold CU at h
 by_cases h1:a.length<b.length
 ·rw [if_pos h1] at h;exact absurd h (by decide)
 ·rw [if_neg h1] at h
  by_cases h2:b.length<a.length
  ·rw [if_pos h2] at h;exact absurd h (by decide)
  ·rw [if_neg h2] at h;exact RP a b h
theorem JF (a b c:List Int) (h1:CU a b≤0) (h2:CU b c≤0):CU a c≤0:=by
  unfold CU at h1 h2 ⊢
  have e1:a.length≤b.length:=Nat.le_of_not_lt fun h=>by rw [if_neg (by omega),if_pos h] at h1;exact absurd h1 (by decide)
  have e2:b.length≤c.length:=Nat.le_of_not_lt fun h=>by rw [if_neg (by omega),if_pos h] at h2;exact absurd h2 (by decide)
  by_cases h:a.length<c.length
  · rw [if_pos h];decide
  · rw [if_neg h, if_neg (by omega)]
    rw [if_neg (by omega),if_neg (by omega)] at h1 h2
    exact PZ a b c h1 h2
theorem UF {N:Nat} {a:Int}:tY N a=some false:=by
 unfold tY
 rw [pV];simp
theorem Fa {N:Nat} {a b:Int}:qL N a b=some (if a<b then -1 else if b<a then 1 else 0):=by
 unfold qL
 rw [UF,UF,bS,bS,qg,qg,bP,rf]
 by_cases h1:a<b
 ·rw [dT h1,if_pos h1];rfl
 ·rw [dF h1,if_neg h1,qg]
  by_cases h2:b<a
  ·rw [dT h2,if_pos h2];rfl
  ·rw [dF h2,if_neg h2];rfl
theorem RQ {a b:List Int}:∀ {i:Nat},(hi:i<a.length)→zi (a.drop i) (b.drop i)=(if h:i<b.length then (if a[i]<b[i] then -1 else if b[i]<a[i] then 1 else zi (a.drop (i+1)) (b.drop (i+1))) else 1):=by
 intro i hi
 rw [List.drop_eq_getElem_cons hi]
 by_cases h:i<b.length
 ·rw [dif_pos h,List.drop_eq_getElem_cons h];rfl
 ·rw [dif_neg h,List.drop_of_length_le (l:=b) (by omega)];rfl
theorem Hy {N:Nat} {a b:List Int} (ha:a.length<1000000) (hb:b.length<1000000) (hN:1000000≤N):mg N a b=some (zi a b):=by
 have key:∀ k i M,i+k=a.length→k<M→∃ o,dh (eP N a b) M (i:Int)=some o∧Sum.elim (fun _=>if a.length<b.length then (-1:Int) else 0) (fun r=>r) o=zi (a.drop i) (b.drop i):=by
  intro k
  induction k with
  | zero =>
   intro i M hi hM
   obtain ⟨M,rfl⟩:∃ m,M=m+1:=⟨M - 1,by omega⟩
   have e:eP N a b (i:Int)=some (.inr (.inl ())):=by
    unfold eP
    rw [bP,dF (by omega),qg]
   refine ⟨.inl (),by rw [dh,e],?_⟩
   rw [List.drop_of_length_le (l:=a) (by omega)]
   simp only [Sum.elim_inl]
   by_cases h:a.length<b.length
   ·rw [if_pos h,List.drop_eq_getElem_cons (l:=b) (by omega)];rfl
   ·rw [if_neg h,List.drop_of_length_le (l:=b) (by omega)];rfl
  | succ k ih =>
   intro i M hi hM
   obtain ⟨M,rfl⟩:∃ m,M=m+1:=⟨M - 1,by omega⟩
   have hia:i<a.length:=by omega
   rw [RQ hia]
   by_cases h:i<b.length
   ·rw [dif_pos h]
    have e:eP N a b (i:Int)=bif aJ .neq (if a[i]<b[i] then -1 else if b[i]<a[i] then 1 else 0) 0 then some (.inr (Sum.inr (if a[i]<b[i] then -1 else if b[i]<a[i] then 1 else 0))) else some (.inl ((i+1:Nat):Int)):=by
     unfold eP
     rw [bP,dT (by omega),qZ,iZ hia,bS,Bz,dF (by omega),qg,iZ h,bS,Fa,bS,pI (by omega)]
    by_cases h1:a[i]<b[i]
    ·rw [if_pos h1] at e
     exact ⟨.inr (-1),by rw [dh,e];rfl,by rw [if_pos h1];rfl⟩
    ·by_cases h2 : b[i] < a[i]
     ·rw [if_neg h1,if_pos h2] at e
      exact ⟨.inr 1,by rw [dh,e];rfl,by rw [if_neg h1,if_pos h2];rfl⟩
     ·rw [if_neg h1,if_neg h2] at e
      obtain ⟨o,h3,h4⟩:=ih (i+1) M (by omega) (by omega)
      exact ⟨o,by rw [dh,e];exact h3,by rw [if_neg h1,if_neg h2];exact h4⟩
   ·rw [dif_neg h]
    have e:eP N a b (i:Int)=some (.inr (Sum.inr 1)):=by
     unfold eP
     rw [bP,dT (by omega),qZ,iZ hia,bS,Bz,dT (by omega),qZ]
    exact ⟨.inr 1,by rw [dh,e],rfl⟩
 obtain ⟨o,h1,h2⟩:=key a.length 0 N (by omega) (by omega)
 unfold mg
 have h1:dh (eP N a b) N 0=some o:=h1
 rw [h1,bS]
 rw [List.drop_zero,List.drop_zero] at h2
 cases o with
 | inl u =>
  simp only [Sum.elim_inl] at h2 ⊢
  rw [← h2,bP]
  by_cases h:a.length<b.length
  ·rw [dT (by omega),if_pos h];rfl
  ·rw [dF (by omega),if_neg h];rfl
 | inr r=>simp only [Sum.elim_inr] at h2 ⊢;rw [h2]
theorem UG {N:Nat} {a b:Int} (hN:1000000≤N):yX N [a,b]=some (if a=0 then b else a):=by
  obtain ⟨N,rfl⟩:∃ m,N=m+3:=⟨N - 3,by omega⟩
  unfold yX
  have e0:mr (N+3) [a,b] 0=bif aJ .neq a 0 then some (.inr (Sum.inr a)) else some (.inl 1):=rfl
  have e1:mr (N+3) [a,b] 1=bif aJ .neq b 0 then some (.inr (Sum.inr b)) else some (.inl 2):=rfl
  have e2:mr (N+3) [a,b] 2=some (.inr (.inl ())):=rfl
  by_cases h:a=0
  · have e0 : mr (N + 3) [a, b] 0 = some (.inl 1) := by rw [e0, pV, dT h]; rfl
    rw [if_pos h,dh,e0]
    simp only []
    by_cases h1:b=0
    · have e1 : mr (N + 3) [a, b] 1 = some (.inl 2) := by rw [e1, pV, dT h1]; rfl
      rw [dh,e1]
      simp only []
      rw [dh,e2,h1];rfl
    · have e1 : mr (N + 3) [a, b] 1 = some (.inr (Sum.inr b)) := by rw [e1, pV, dF h1]; rfl
      rw [dh,e1];rfl
  · have e0 : mr (N + 3) [a, b] 0 = some (.inr (Sum.inr a)) := by rw [e0, pV, dF h]; rfl
    rw [if_neg h,dh,e0];rfl
theorem RS {N:Nat} {a b:List Int} (ha:a.length<1000000) (hb:b.length<1000000) (hN:1000000≤N):jX N a b=some (CU a b):=by
  unfold jX
  rw [Fa,bS,Hy ha hb hN,bS,UG hN,bS]
  unfold CU
  by_cases h1:a.length<b.length
  · have e : (if (a.length : Int) < (b.length : Int) then (-1 : Int) else if (b.length : Int) < a.length then 1 else 0) = -1 := if_pos (by omega)
    rw [e,if_pos h1];rfl
  · by_cases h2 : b.length < a.length
    · have e : (if (a.length : Int) < (b.length : Int) then (-1 : Int) else if (b.length : Int) < a.length then 1 else 0) = 1 := by rw [if_neg (by omega), if_pos (by omega)]
      rw [e,if_neg h1,if_pos h2];rfl
    · have e : (if (a.length : Int) < (b.length : Int) then (-1 : Int) else if (b.length : Int) < a.length then 1 else 0) = 0 := by rw [if_neg (by omega), if_neg (by omega)]
      rw [e,if_neg h1,if_neg h2];rfl
def pW (n b:Nat):List Nat:=(List.range n).filter fun i=>b.testBit i
def AV (p:GPermitPlan) (b:Nat):List aF:=(pW p.ay.length b).map fun i=>p.ay[i]!
def En (p:GPermitPlan):List (List Int):=((List.range (2 ^ p.ay.length)).filter fun b=>CV p (AV p b)).map fun b=>(pW p.ay.length b).map fun (i:Nat)=>(i:Int)
def mW (p:GPermitPlan):List (List Int):=xP (fun a b=>some (CU a b)) (En p)
theorem XQ {b i:Nat} (hb:b<1024) (hi:i<20):((PV .i64 (b:Int) (i:Int)).bind fun v5=>some (aJ .eql (PU .and .i64 v5 1) 1))=some (b.testBit i):=by
 have e1:PV .i64 (b:Int) (i:Int)=some ((b / 2 ^ i:Nat):Int):=by
  unfold PV
  rw [if_neg (by omega)]
  have:min (i:Int).toNat IntKind.i64.bits=i:=by
   show min (i:Int).toNat 64=i
   omega
  rw [this,Int.fdiv_eq_ediv_of_nonneg _ (by exact_mod_cast Nat.zero_le _)]
  congr 1
 have hq:b / 2 ^ i<1024:=Nat.lt_of_le_of_lt (Nat.div_le_self _ _) hb
 have e2:PU .and .i64 ((b / 2 ^ i:Nat):Int) 1=((b / 2 ^ i % 2:Nat):Int):=by
  unfold PU
  simp only []
  have e:(BitVec.ofInt IntKind.i64.bits ((b / 2 ^ i:Nat):Int) &&& BitVec.ofInt IntKind.i64.bits (1:Int)).toNat=b / 2 ^ i % 2:=by
   rw [BitVec.ofInt_natCast,BitVec.toNat_and,BitVec.toNat_ofNat]
   show b / 2 ^ i % 2 ^ 64 &&& 1=_
   rw [Nat.mod_eq_of_lt (by omega)]
   exact Nat.and_two_pow_sub_one_eq_mod _ 1
  rw [e]
  exact XR (by omega) (by omega)
 rw [e1,bS,e2,uU,Nat.testBit_eq_decide_div_mod_eq]
 congr 1
 rw [decide_eq_decide]
 omega
theorem DK {α β γ : Type} (g : α → Bool) (h1 : α → β) (h2 : α → γ) : ∀ (l : List α) (a : List β) (c : List γ), l.foldl (fun t x => bif g x then (t.1 ++ [h1 x], t.2 ++ [h2 x]) else t) (a, c) = (a ++ (l.filter g).map h1, c ++ (l.filter g).map h2)
  | [],a,c=>by simp
  | x :: r,a,c=>by
    rw [List.foldl_cons]
    cases hx:g x with
    | true =>
      rw [qZ,DK g h1 h2 r]
      rw [List.filter_cons_of_pos hx];simp
    | false=>rw [qg,DK g h1 h2 r,List.filter_cons_of_neg (by rw [hx];decide)]
theorem JG {β:Type} {c c':β→β→Option Int} {x:β}:∀ l,(∀ y ∈ l,Gx c y x=Gx c' y x)→Hu c x l=Hu c' x l
 | [],_=>rfl
 | y :: l,h=>by
  show (bif Gx c y x then y :: Hu c x l else x :: y :: l)=(bif Gx c' y x then y :: Hu c' x l else x :: y :: l)
  rw [h y List.mem_cons_self,JG l fun z hz=>h z (List.mem_cons_of_mem _ hz)]
theorem Gz {β:Type} {c c':β→β→Option Int}:∀ l,(∀ x ∈ l,∀ y ∈ l,Gx c x y=Gx c' x y)→xP c l=xP c' l
 | [],_=>rfl
 | x :: l,h=>by
  show Hu c x (xP c l)=Hu c' x (xP c' l)
  rw [Gz l fun y hy z hz=>h y (List.mem_cons_of_mem _ hy) z (List.mem_cons_of_mem _ hz)]
  exact JG _ fun y hy=>h y (List.mem_cons_of_mem _ ((vZ c' l).mem_iff.1 hy)) x List.mem_cons_self
theorem Hz {n b i:Nat} (h:i ∈ pW n b):i<n:=by
 unfold pW at h
 exact List.mem_range.1 (List.mem_filter.1 h).1
theorem FQ {n b:Nat}:(pW n b).length≤n:=by
 unfold pW
 exact Nat.le_trans (List.length_filter_le _ _) (by rw [List.length_range];exact Nat.le_refl _)
theorem Om {p:GPermitPlan} {a:List Int} (h:a ∈ En p):∃ b,b<2 ^ p.ay.length∧CV p (AV p b)=true∧a=(pW p.ay.length b).map fun (i:Nat)=>(i:Int):=by
 unfold En at h
 obtain ⟨b,hb,rfl⟩:=List.mem_map.1 h
 obtain ⟨h1,h2⟩:=List.mem_filter.1 hb
 exact ⟨b,List.mem_range.1 h1,h2,rfl⟩
theorem UH {p:GPermitPlan} {b:Nat} (h1:b<2 ^ p.ay.length) (h2:CV p (AV p b)=true):((pW p.ay.length b).map fun (i:Nat)=>(i:Int)) ∈ En p :=
 List.mem_map.2 ⟨b,List.mem_filter.2 ⟨List.mem_range.2 h1,h2⟩,rfl⟩
theorem Aa {p:GPermitPlan} {a:List Int}:a ∈ mW p↔a ∈ En p:=(vZ _ _).mem_iff
theorem Oo {p:GPermitPlan}:(En p).length≤2 ^ p.ay.length:=by
 unfold En
 rw [List.length_map]
 exact Nat.le_trans (List.length_filter_le _ _) (by rw [List.length_range];exact Nat.le_refl _)
theorem DI {p:GPermitPlan} {a:List Int} (h:a ∈ En p):a.length≤p.ay.length∧∀ i ∈ a,∃ k:Nat,i=(k:Int)∧k<p.ay.length:=by
 obtain ⟨b,_,_,rfl⟩:=Om h
 refine ⟨by rw [List.length_map];exact FQ,fun i hi=>?_⟩
 obtain ⟨k,hk,rfl⟩:=List.mem_map.1 hi
 exact ⟨k,rfl,Hz hk⟩
theorem pow10 {n:Nat} (h:n≤10):2 ^ n≤1024:=by
 have:=Nat.pow_le_pow_right (n:=2) (by decide) h
 exact this
section
variable {N:Nat} {p:GPermitPlan} (hp:J4 p) (hN:1000000≤N) (hn:p.ay.length≤10)
include hN hn in
theorem RU {b:Nat} (hb:b<1024) (out:List (List Int)):dh (oN N p (out,(b:Int))) N ([],[],0)=some ((pW p.ay.length b).map (fun (i:Nat)=>(i:Int)),AV p b):=by
  have hlim:lim ≥ 10000000:=by decide
  have key:=yJ (N:=N) (f:=oN N p (out,(b:Int))) (List.range p.ay.length) (([]:List Int),([]:List aF)) (fun t i=>bif b.testBit i then (t.1 ++ [(i:Int)],t.2 ++ [p.ay[i]!]) else t) (fun t i=>(t.1,t.2,i)) (fun t=>(t.1,t.2)) (fun i hi t ht=>?_) (fun t=>?_) (by rw [List.length_range];omega)
  · rw [DK (fun i => b.testBit i) (fun (i : Nat) => (i : Int)) (fun i => p.ay[i]!)] at key
    exact key
  · rw [List.length_range] at hi
    rw [List.getElem_range]
    rw [DK (fun i=>b.testBit i) (fun (i:Nat)=>(i:Int)) (fun i=>p.ay[i]!)] at ht
    have hl:=List.length_filter_le (fun i=>b.testBit i) ((List.range p.ay.length).take i)
    have hl2:((List.range p.ay.length).take i).length≤10:=by rw [List.length_take,List.length_range];omega
    have ht1:t.1.length≤10:=by rw [ht];simp only [List.nil_append,List.length_map];omega
    have ht2:t.2.length≤10:=by rw [ht];simp only [List.nil_append,List.length_map];omega
    unfold oN
    simp only []
    have hbit:=XQ hb (i:=i) (by omega)
    cases hs:PV .i64 (b:Int) (i:Int) with
    | none=>rw [hs] at hbit;cases hbit
    | some v5 =>
      rw [hs,bS] at hbit
      rw [bP,dT (by omega),qZ,yK hi,bS,bS,Option.some.inj hbit]
      cases b.testBit i with
      | true=>rw [qZ,qZ,Iz (by simp only [List.length_singleton];omega),bS,Iz (by simp only [List.length_singleton];omega),bS,pI (by omega)]
      | false=>rw [qg,qg,pI (by omega)]
  · unfold oN
    simp only [List.length_range]
    rw [bP,dF (by omega),qg]
theorem P5 {b:Nat} {x:aF} (h:x ∈ AV p b):x ∈ p.ay:=by
 unfold AV at h
 obtain ⟨i,hi,rfl⟩:=List.mem_map.1 h
 rw [xR (Hz hi)]
 exact List.getElem_mem _
theorem P6 {b:Nat}:(AV p b).length≤p.ay.length:=by
 unfold AV;rw [List.length_map];exact FQ
include hp hN hn in
theorem UI:dh (oM N p ((2 ^ p.ay.length:Nat):Int)) N ([],0)=some (En p):=by
 have hlim:lim ≥ 10000000:=by decide
 have h10:=pow10 hn
 rw [EK (f:=oM N p ((2 ^ p.ay.length:Nat):Int)) (List.range (2 ^ p.ay.length)) [] (fun b=>CV p (AV p b)) (fun b=>(pW p.ay.length b).map fun (i:Nat)=>(i:Int)) (fun a i=>(a,i)) (fun a=>a) (fun j hj acc hacc=>?_) (fun acc=>?_) (by rw [List.length_range];omega)]
 ·rfl
 ·rw [List.length_range] at hj hacc
  rw [List.getElem_range]
  unfold oM
  simp only []
  rw [bP,dT (by omega),qZ,RU hN hn (by omega),bS]
  simp only []
  rw [Oq hp (Nat.lt_of_le_of_lt P6 (by omega)) (fun x hx=>hp.l x (P5 hx)) hN,bS]
  simp only [List.length_nil] at hacc
  cases CV p (AV p j) with
  | true=>rw [qZ,qZ,Iz (by simp only [List.length_singleton];omega),bS,pI (by omega)]
  | false=>rw [qg,qg,pI (by omega)]
 ·unfold oM
  simp only [List.length_range]
  rw [bP,dF (by omega),qg]
include hp hN hn in
theorem QN:vC N p=some (mW p):=by
 have h10:=pow10 hn
 have h64:Ux .i64 1 (p.ay.length:Int)=some ((2 ^ p.ay.length:Nat):Int):=by
  unfold Ux
  rw [if_neg (by omega)]
  have:min (p.ay.length:Int).toNat IntKind.i64.bits=p.ay.length:=by
   show min (p.ay.length:Int).toNat 64=_
   omega
  rw [this,Int.one_mul,show (2:Int) ^ p.ay.length=((2 ^ p.ay.length:Nat):Int) from (Int.natCast_pow 2 _).symm]
  generalize 2 ^ p.ay.length=q at h10
  rw [XR (by omega) (by omega)]
 unfold vC
 rw [h64,bS,UI hp hN hn,bS]
 have hcmp:∀ x ∈ En p,∀ y ∈ En p,jX N x y=some (CU x y):=fun x hx y hy=>by
  have h1:=(DI hx).1
  have h2:=(DI hy).1
  exact RS (by omega) (by omega) hN
 have hs:DC (fun y0 y1=>jX N y0 y1) (En p):=KP hcmp EL KQ JF
 have hl:=Oo (p:=p)
 have e:nK N (En p) (fun y0 y1=>jX N y0 y1)=some (mW p):=by
  unfold nK
  rw [PW hs (by omega)]
  congr 1
  exact Gz _ fun x hx y hy=>by
   show (match jX N x y with | some n=>decide (n<0) | none=>false)=_
   rw [hcmp x hx y hy];rfl
 rw [e];rfl
end
end Go.KB
namespace Go.KB
set_option linter.unusedVariables false
theorem VI {α:Type} {l:List α} {N:Nat} {f:(Bool×Int)→Option ((Bool×Int) ⊕ Bool)} {g:α→Bool} (hf:∀ (i:Nat) (h:i<l.length) (b:Bool),f (b,(i:Int))=some (.inl (b||g l[i],((i+1:Nat):Int)))) (he:∀ b,f (b,(l.length:Int))=some (.inr b)) (hN:l.length<N):dh f N (false,0)=some (l.any g):=by
 rw [yJ (f:=f) l false (fun b x=>b||g x) (fun b i=>(b,i)) (fun b=>b) (fun i hi t _=>hf i hi t) he hN]
 congr 1
 have:∀ (l:List α) (b:Bool),l.foldl (fun b x=>b||g x) b=(b||l.any g):=by
  intro l
  induction l with
  | nil=>intro b;simp
  | cons x l ih=>intro b;rw [List.foldl_cons,ih,List.any_cons,Bool.or_assoc]
 rw [this];rfl
theorem RI {N:Nat} {a b:List Str} (ha:a.length<1000000) (hN:1000000≤N):uP N a b=some (decide (a=b)):=by
  unfold uP
  rw [pV]
  by_cases h:a.length=b.length
  · rw [dT (by omega), Bool.not_true, qg]
    have h3:dh (rP N a b) N 0=some (bif (List.range a.length).all (fun i=>decide (a[i]! = b[i]!)) then Sum.inl () else Sum.inr false):=by
      refine CQ (fun i hi=>?_) ?_ (by omega)
      · have hi2 : i < b.length := by omega
        unfold rP
        rw [bP,dT (by omega),qZ,yK hi,bS,yK hi2,bS,UJ,pI (by omega)]
        cases decide (a[i]! = b[i]!) <;> rfl
      · unfold rP
        rw [bP,dF (by omega),qg]
    rw [h3,bS]
    have e:decide (a=b)=(List.range a.length).all (fun i=>decide (a[i]! = b[i]!)):=by
      rw [Bool.eq_iff_iff,decide_eq_true_eq,List.all_eq_true]
      constructor
      · rintro rfl i hi;rw [decide_eq_true_eq]
      · intro hq
        refine List.ext_getElem h fun i h1 h2=>?_
        have:=hq i (List.mem_range.2 h1)
        rw [decide_eq_true_eq,xR h1,xR h2] at this
        exact this
    rw [e]
    cases (List.range a.length).all (fun i=>decide (a[i]! = b[i]!)) <;> rfl
  · rw [dF (by omega),Bool.not_false,qZ,dF (fun e=>h (by rw [e]))]
theorem RV {N:Nat} {l:List (List Int)} {f:List Int→Option Bool} {g:List Int→Bool} (hf:∀ y ∈ l,f y=some (g y)) (hl:l.length<1000000) (hN:1000000≤N):jA N l f=some (l.any g):=by
 unfold jA mO
 have h:((dh (jb N l f) N 0).bind fun o6=>Sum.elim (fun l8=>some (-1)) (fun r9=>some r9) o6)=some (Ik g l):=by
  refine wC (fun i hi=>?_) ?_ (by omega)
  ·unfold jb
   rw [bP,dT (by omega),qZ,iZ hi,bS,hf _ (List.getElem_mem hi),bS,pI (by omega)]
  ·unfold jb
   rw [bP,dF (by omega),qg]
 rw [h,bS,MI]
theorem RX {N:Nat} {l:List Int} {f:Int→Option Bool} {g:Int→Bool} (hf:∀ y ∈ l,f y=some (g y)) (hl:l.length<1000000) (hN:1000000≤N):jR N l f=some (l.any g):=by
 unfold jR nU
 have h:((dh (jl N l f) N 0).bind fun o6=>Sum.elim (fun l8=>some (-1)) (fun r9=>some r9) o6)=some (Ik g l):=by
  refine wC (fun i hi=>?_) ?_ (by omega)
  ·unfold jl
   rw [bP,dT (by omega),qZ,iZ hi,bS,hf _ (List.getElem_mem hi),bS,pI (by omega)]
  ·unfold jl
   rw [bP,dF (by omega),qg]
 rw [h,bS,MI]
def UC (p:GPermitPlan) (a:List Int):List Str:=a.map fun i=>p.ay[i.toNat]!.Name
def zZ (a b:List Int):Bool:=decide (a.length<b.length)&&a.all (fun i=>b.contains i)
def Ij (p:GPermitPlan):List (List Int):=(mW p).filter fun a=>!(mW p).any (zZ a)
section
variable {N:Nat} {p:GPermitPlan} (hp:J4 p) (hN:1000000≤N) (hn:p.ay.length≤10)
theorem Gy (hn:p.ay.length≤10):(mW p).length≤1024:=by
 have h1:(mW p).length=(En p).length:=(vZ _ _).length_eq
 have h2:=Oo (p:=p)
 have h3:=pow10 hn
 omega
include hN hn in
theorem Ot {l:List (List Int)} (hl:l.length<1000000) (hm:∀ a ∈ l,a ∈ En p):uf N p l=some (l.map (UC p)):=by
 have hlim:lim ≥ 10000000:=by decide
 unfold uf
 rw [EK (f:=pK N p l) l [] (fun _=>true) (UC p) (fun a i=>(a,i)) (fun a=>a) (fun j hj acc hacc=>?_) (fun acc=>?_) (by omega)]
 ·rw [List.filter_eq_self.2 (fun _ _=>rfl)];rfl
 ·simp only [List.length_nil] at hacc
  obtain ⟨h1,h2⟩:=DI (hm _ (List.getElem_mem hj))
  have h3:dh (nX N p l[j]) N ([],0)=some (UC p l[j]):=by
   rw [EK (f:=nX N p l[j]) l[j] [] (fun _=>true) (fun i=>p.ay[i.toNat]!.Name) (fun a i=>(a,i)) (fun a=>a) (fun k hk acc hacc=>?_) (fun acc=>?_) (by omega)]
   ·rw [List.filter_eq_self.2 (fun _ _=>rfl)];rfl
   ·simp only [List.length_nil] at hacc
    obtain ⟨m,h4,h5⟩:=h2 _ (List.getElem_mem hk)
    unfold nX
    simp only []
    rw [bP,dT (by omega),qZ,iZ hk,bS,h4,yK h5,bS,Iz (by simp only [List.length_singleton];omega),bS,pI (by omega)];rfl
   ·unfold nX
    simp only []
    rw [bP,dF (by omega),qg]
  unfold pK
  simp only []
  rw [bP,dT (by omega),qZ,iZ hj,bS,h3,bS,Iz (by simp only [List.length_singleton];omega),bS,pI (by omega)];rfl
 ·unfold pK
  simp only []
  rw [bP,dF (by omega),qg]
include hp hN in
theorem Ac:tX N p=some (if oz p≠0 then oz p else if 10<p.ay.length then 8 else 0):=by
  unfold tX
  rw [MJ hp hN,bS,pV,rf]
  by_cases h:oz p=0
  · rw [dT h, if_neg (fun e => e h), Bool.not_true, qg]
    by_cases h2:10<p.ay.length
    · rw [dT (by omega),if_pos h2];rfl
    · rw [dF (by omega),if_neg h2];rfl
  · rw [dF h,if_pos h];rfl
include hp hN hn in
theorem MH (hc:oz p=0):jV N p=some ((mW p).map (UC p),0):=by
 have hl:=Gy hn
 unfold jV
 rw [Ac hp hN,if_neg (fun e=>e hc),if_neg (by omega),bS,pV,dT rfl,Bool.not_true,qg,QN hp hN hn,bS,Ot hN hn (by omega) (fun a ha=>Aa.1 ha),bS]
include hp hN hn in
theorem PY (hc:oz p=0):kZ N p=some ((Ij p).map (UC p),0):=by
  have hlim:lim ≥ 10000000:=by decide
  have hl:=Gy hn
  unfold kZ
  rw [Ac hp hN,if_neg (fun e=>e hc),if_neg (by omega),bS,pV,dT rfl,Bool.not_true,qg,QN hp hN hn,bS]
  have h1:dh (lM N (mW p)) N ([],0)=some (Ij p):=by
    rw [EK (f:=lM N (mW p)) (mW p) [] (fun a=>!(mW p).any (zZ a)) (fun a=>a) (fun a i=>(a,i)) (fun a=>a) (fun j hj acc hacc=>?_) (fun acc=>?_) (by omega)]
    · simp [Ij]
    · simp only [List.length_nil] at hacc
      have hw:∀ y ∈ mW p,oL N y (mW p)[j]=some (zZ (mW p)[j] y):=fun y hy=>by
        have h3:=(DI (Aa.1 hy)).1
        have h4:=(DI (Aa.1 (List.getElem_mem hj))).1
        unfold oL zZ
        rw [rf]
        by_cases hlt:(mW p)[j].length<y.length
        · rw [dT (by omega), dT hlt, qZ, RX (g := fun i => !y.contains i) (fun i _ => by unfold pq; rw [UK (by omega) hN]; rfl) (by omega) hN, bS, Bool.true_and, Bool.true_and]
          congr 1
          rw [List.not_any_eq_all_not];simp only [Bool.not_not]
        · rw [dF (by omega),dF hlt];rfl
      unfold lM
      simp only []
      rw [bP,dT (by omega),qZ,iZ hj,bS,RV hw (by omega) hN,bS]
      cases (mW p).any (zZ (mW p)[j]) with
      | true=>simp only [Bool.not_true,qg];rw [pI (by omega)]
      | false=>simp only [Bool.not_false,qZ];rw [Iz (by simp only [List.length_singleton];omega),bS,pI (by omega)]
    · unfold lM
      simp only []
      rw [bP,dF (by omega),qg]
  have h2:(Ij p).length≤(mW p).length:=List.length_filter_le _ _
  rw [h1,bS,Ot hN hn (l:=Ij p) (by omega) (fun a ha=>Aa.1 (List.mem_filter.1 ha).1),bS]
end
theorem VK (n:Nat):∀ φ:Nat→Bool,∃ b,b<2 ^ n∧∀ i,i<n→b.testBit i=φ i:=by
 induction n with
 | zero=>exact fun φ=>⟨0,by decide,fun i hi=>by omega⟩
 | succ n ih =>
  intro φ
  obtain ⟨b,h1,h2⟩:=ih fun i=>φ (i+1)
  refine ⟨2 * b+(bif φ 0 then 1 else 0),?_,fun i hi=>?_⟩
  ·rw [Nat.pow_succ];cases φ 0 <;> simp only [qZ,qg] <;> omega
  ·cases i with
   | zero =>
    rw [Nat.testBit_zero]
    cases φ 0 with
    | true=>simp only [qZ,decide_eq_true_eq];omega
    | false=>simp only [qg,decide_eq_false_iff_not];omega
   | succ i =>
    rw [Nat.testBit_succ,show (2 * b+(bif φ 0 then 1 else 0)) / 2=b by cases φ 0 <;> simp only [qZ,qg] <;> omega]
    exact h2 i (by omega)
end Go.KB
namespace Go.KB
set_option linter.unusedVariables false
end Go.KB
namespace Go.KB
set_option linter.unusedVariables false
def ci (l:List Nat):List Int:=l.map fun (i:Nat)=>(i:Int)
def Bd (n:Nat):Nat→Nat→List Nat→List (List Nat)
 | 0,_,ch=>[ch]
 | k+1,fr,ch=>(List.range' fr (n - fr)).flatMap fun i=>Bd n k (i+1) (ch ++ [i])
theorem UL {a m x:Nat}:x ∈ List.range' a m↔a≤x∧x<a+m:=by
 rw [List.mem_range']
 constructor
 ·rintro ⟨i,hi,rfl⟩;omega
 ·rintro ⟨h1,h2⟩;exact ⟨x - a,by omega,by omega⟩
theorem Eo {n:Nat}:∀ {k fr:Nat} {ch l:List Nat},l ∈ Bd n k fr ch↔∃ t,l=ch ++ t∧t.length=k∧t.Pairwise (· < ·)∧∀ x ∈ t,fr≤x∧x<n:=by
 intro k
 induction k with
 | zero =>
  intro fr ch l
  constructor
  ·intro h
   have h:l=ch:=List.mem_singleton.1 h
   exact ⟨[],by simp [h],rfl,List.Pairwise.nil,fun x hx=>by cases hx⟩
  ·rintro ⟨t,rfl,ht,_⟩
   rw [List.length_eq_zero_iff.1 ht,List.append_nil]
   exact List.mem_singleton_self _
 | succ k ih =>
  intro fr ch l
  show l ∈ (List.range' fr (n - fr)).flatMap (fun i=>Bd n k (i+1) (ch ++ [i]))↔_
  rw [List.mem_flatMap]
  constructor
  ·rintro ⟨i,hi,hl⟩
   obtain ⟨t,rfl,h1,h2,h3⟩:=ih.1 hl
   rw [UL] at hi
   refine ⟨i :: t,by simp,by simp [h1],List.pairwise_cons.2 ⟨fun x hx=>by have:=h3 x hx;omega,h2⟩,fun x hx=>?_⟩
   rcases List.mem_cons.1 hx with rfl | hx
   ·omega
   ·have:=h3 x hx;omega
  ·rintro ⟨t,rfl,h1,h2,h3⟩
   cases t with
   | nil=>simp at h1
   | cons i t =>
    obtain ⟨h4,h5⟩:=List.pairwise_cons.1 h2
    have h6:=h3 i List.mem_cons_self
    refine ⟨i,by rw [UL];omega,ih.2 ⟨t,by simp,by simpa using h1,h5,fun x hx=>?_⟩⟩
    have:=h3 x (List.mem_cons_of_mem _ hx)
    have:=h4 x hx
    omega
theorem UM (c a b:List Int):zi (c ++ a) (c ++ b)=zi a b:=by
 induction c with
 | nil=>rfl
 | cons x c ih =>
  show (if x<x then -1 else if x<x then 1 else zi (c ++ a) (c ++ b))=_
  rw [if_neg (by omega),if_neg (by omega),ih]
theorem Ou {n:Nat}:∀ {k fr:Nat} {ch:List Nat},(Bd n k fr ch).Pairwise (fun a b=>zi (ci a) (ci b)<0):=by
 intro k
 induction k with
 | zero=>intro fr ch;exact List.pairwise_singleton _ _
 | succ k ih =>
  intro fr ch
  show ((List.range' fr (n - fr)).flatMap (fun i=>Bd n k (i+1) (ch ++ [i]))).Pairwise _
  rw [List.pairwise_flatMap]
  refine ⟨fun i _=>ih,List.Pairwise.imp (fun {i j} hij x hx y hy=>?_) (List.pairwise_lt_range' (s:=fr) (n:=n - fr) 1)⟩
  obtain ⟨t,rfl,_⟩:=Eo.1 hx
  obtain ⟨u,rfl,_⟩:=Eo.1 hy
  unfold ci
  simp only [List.append_assoc,List.map_append]
  rw [UM]
  show (if (i:Int)<(j:Int) then (-1:Int) else _)<0
  rw [if_pos (by omega)];decide
theorem Ol {n:Nat} (hn:n≤6):∀ {k fr:Nat} {ch:List Nat},(Bd n k fr ch).length≤6 ^ k:=by
 intro k
 induction k with
 | zero=>intro fr ch;exact Nat.le_refl _
 | succ k ih =>
  intro fr ch
  show ((List.range' fr (n - fr)).flatMap (fun i=>Bd n k (i+1) (ch ++ [i]))).length≤_
  have key:∀ l:List Nat,(l.flatMap (fun i=>Bd n k (i+1) (ch ++ [i]))).length≤l.length * 6 ^ k:=by
   intro l
   induction l with
   | nil=>simp
   | cons x l ih2 =>
    rw [List.flatMap_cons,List.length_append,List.length_cons,Nat.succ_mul]
    have:=ih (fr:=x+1) (ch:=ch ++ [x])
    omega
  have:=key (List.range' fr (n - fr))
  rw [List.length_range'] at this
  rw [Nat.pow_succ]
  have h2:(n - fr) * 6 ^ k≤6 * 6 ^ k:=Nat.mul_le_mul_right _ (by omega)
  omega
def xQ (p:GPermitPlan) (t:List Nat):Bool:=CV p (t.map fun i=>p.ay[i]!)
def XT (p:GPermitPlan):List (List Nat):=(List.range (p.ay.length+1)).flatMap fun k=>(Bd p.ay.length k 0 []).filter (xQ p)
theorem RY {n b:Nat} {t:List Nat} (h1:t.Pairwise (· < ·)) (h2:∀ x ∈ t,x<n) (hb:∀ i,i<n→b.testBit i=decide (i ∈ t)):pW n b=t:=by
 have hp:(pW n b).Pairwise (· < ·):=List.pairwise_lt_range.filter _
 refine List.Perm.eq_of_pairwise (le:=(· < ·)) (fun a b _ _ h3 h4=>absurd h3 (by omega)) hp h1 ?_
 refine (List.perm_ext_iff_of_nodup (hp.imp fun h=>Nat.ne_of_lt h) (h1.imp fun h=>Nat.ne_of_lt h)).2 fun a=>?_
 unfold pW
 rw [List.mem_filter,List.mem_range]
 constructor
 ·rintro ⟨h3,h4⟩
  rw [hb a h3,decide_eq_true_eq] at h4;exact h4
 ·intro h
  exact ⟨h2 a h,by rw [hb a (h2 a h),decide_eq_true_eq];exact h⟩
theorem P7 {n a b:Nat} (ha:a<2 ^ n) (hb:b<2 ^ n) (h:pW n a=pW n b):a=b:=by
  refine Nat.eq_of_testBit_eq fun i=>?_
  by_cases hi:i<n
  · have e : i ∈ pW n a ↔ i ∈ pW n b := by rw [h]
    unfold pW at e
    rw [List.mem_filter,List.mem_filter,List.mem_range] at e
    rw [Bool.eq_iff_iff]
    constructor
    · exact fun q=>(e.1 ⟨hi,q⟩).2
    · exact fun q=>(e.2 ⟨hi,q⟩).2
  · have h2 := Nat.pow_le_pow_right (n := 2) (by decide) (Nat.le_of_not_lt hi)
    rw [Nat.testBit_lt_two_pow (Nat.lt_of_lt_of_le ha h2),Nat.testBit_lt_two_pow (Nat.lt_of_lt_of_le hb h2)]
theorem XU {a b:List Nat} (h:ci a=ci b):a=b:=by
 unfold ci at h
 have:=congrArg (List.map Int.toNat) h
 rw [List.map_map,List.map_map] at this
 have e:∀ l:List Nat,l.map (Int.toNat ∘ fun (i:Nat)=>(i:Int))=l:=fun l=>by
  rw [List.map_congr_left (g:=id) (fun i _=>by simp),List.map_id]
 rw [e,e] at this;exact this
theorem P8 {p:GPermitPlan}:(En p).Nodup:=by
 unfold En
 refine List.pairwise_map.2 ((List.nodup_range.filter _).imp_of_mem fun {a b} hi hj hne e=>hne ?_)
 exact P7 (List.mem_range.1 (List.mem_filter.1 hi).1) (List.mem_range.1 (List.mem_filter.1 hj).1) (XU e)
theorem Ov {p:GPermitPlan}:((XT p).map ci).Pairwise (fun a b=>CU a b<0):=by
  unfold XT
  rw [List.pairwise_map,List.pairwise_flatMap]
  have hlen:∀ k x,x ∈ (Bd p.ay.length k 0 []).filter (xQ p)→(ci x).length=k:=fun k x hx=>by
    obtain ⟨t,rfl,h1,_⟩:=Eo.1 (List.mem_filter.1 hx).1
    unfold ci;simp [h1]
  refine ⟨fun k _=>?_,(List.pairwise_lt_range (n:=p.ay.length+1)).imp fun {a b} hab x hx y hy=>?_⟩
  · refine (Ou.filter _).imp_of_mem fun {x y} hx hy h => ?_
    unfold CU
    rw [hlen k x hx,hlen k y hy,if_neg (by omega),if_neg (by omega)];exact h
  · unfold CU
    rw [hlen a x hx,hlen b y hy,if_pos hab];decide
theorem VJ {p:GPermitPlan}:(XT p).map ci=mW p:=by
  have hs:=Ov (p:=p)
  have h0:∀ x,CU x x=0:=fun x=>by
    have:=EL x x
    omega
  refine KN (c:=fun a b=>some (CU a b)) (KP (k:=CU) (fun _ _ _ _=>rfl) EL KQ JF) ?_ (hs.imp fun {a b} h=>?_)
  · refine (List.perm_ext_iff_of_nodup (hs.imp fun {a b} h e => ?_) P8).2 fun x => ?_
    · subst e;rw [h0] at h;exact absurd h (by decide)
    constructor
    · intro h
      obtain ⟨t,ht,rfl⟩:=List.mem_map.1 h
      obtain ⟨k,hk,ht⟩:=List.mem_flatMap.1 ht
      obtain ⟨h1,h2⟩:=List.mem_filter.1 ht
      obtain ⟨u,e,_,h3,h4⟩:=Eo.1 h1
      rw [List.nil_append] at e
      subst e
      obtain ⟨b,hb,hbit⟩:=VK p.ay.length fun i=>decide (i ∈ t)
      have e:=RY h3 (fun x hx=>(h4 x hx).2) hbit
      have:=UH (p:=p) hb (by unfold AV;rw [e];exact h2)
      rw [e] at this;exact this
    · intro h
      obtain ⟨b,hb,h1,rfl⟩:=Om h
      refine List.mem_map.2 ⟨pW p.ay.length b,List.mem_flatMap.2 ⟨(pW p.ay.length b).length,List.mem_range.2 (Nat.lt_succ_of_le FQ),List.mem_filter.2 ⟨Eo.2 ⟨_,rfl,rfl,List.pairwise_lt_range.filter _,fun x hx=>⟨Nat.zero_le _,Hz hx⟩⟩,h1⟩⟩,rfl⟩
  · show decide (CU b a<0)=false
    have:=(EL a b).1 (by omega)
    rw [decide_eq_false_iff_not];omega
theorem XV {α:Type} {z:α} {n:Nat} (h:n<1000000):mk z (n:Int) (n:Int)=some (List.replicate n z):=by
 have hlim:(10000000:Int)≤lim:=by decide
 unfold mk
 rw [dT (by omega),dT (by omega),dT (by omega),Int.toNat_natCast];rfl
theorem foldl_set {ch:List Nat}:∀ {t:List Bool} {i:Nat},(h:i<(ch.foldl (fun t x=>t.set x true) t).length)→(ch.foldl (fun t x=>t.set x true) t)[i]=(decide (i ∈ ch)||t[i]!):=by
 induction ch with
 | nil=>intro t i h;have h:i<t.length:=h;show t[i]=_;rw [xR h];simp
 | cons x ch ih =>
  intro t i h
  have h':i<(ch.foldl (fun t x=>t.set x true) (t.set x true)).length:=h
  show (ch.foldl (fun t x=>t.set x true) (t.set x true))[i]=_
  rw [ih h']
  have hl:∀ (ch:List Nat) (t:List Bool),(ch.foldl (fun t x=>t.set x true) t).length=t.length:=by
   intro ch
   induction ch with
   | nil=>intro t;rfl
   | cons y ch ih2=>intro t;rw [List.foldl_cons,ih2,List.length_set]
  have hi:i<t.length:=by rw [hl,List.length_set] at h';exact h'
  rw [xR (by rw [List.length_set];exact hi),xR hi,List.getElem_set]
  by_cases hx:x=i
  ·subst hx;simp
  ·rw [if_neg hx]
   have:decide (i ∈ x :: ch)=decide (i ∈ ch):=by
    rw [decide_eq_decide,List.mem_cons]
    exact ⟨fun h=>h.elim (fun e=>absurd e.symm hx) id,.inr⟩
   rw [this]
theorem Fb:∀ (ch:List Nat) (t:List Bool),(ch.foldl (fun t x=>t.set x true) t).length=t.length:=by
 intro ch
 induction ch with
 | nil=>intro t;rfl
 | cons y ch ih2=>intro t;rw [List.foldl_cons,ih2,List.length_set]
section
variable {N:Nat} {p:GPermitPlan} (hp:J4 p) (ho:RJ p) (hn:p.ay.length≤6)
include hp ho hn in
theorem P9 (hN:1000000≤N) {ch:List Nat} (hc:∀ x ∈ ch,x<p.ay.length) (hl:ch.length≤100) (rc:GPermitPlan→Int→Int→(List Int)→Option ((List (List Int)))) (fr:Int):pz N rc p 0 fr (ci ch)=some (bif xQ p ch then [ci ch] else []):=by
  have hlim:lim ≥ 10000000:=by decide
  unfold pz
  rw [uU,dT rfl,qZ]
  have hmk:mk false (p.ay.length:Int) (p.ay.length:Int)=some (List.replicate p.ay.length false):=by
    exact XV (by omega)
  rw [hmk,bS]
  have hcl:(ci ch).length=ch.length:=by unfold ci;rw [List.length_map]
  have h1:dh (qc N (ci ch)) N (List.replicate p.ay.length false,0)=some (ch.foldl (fun t x=>t.set x true) (List.replicate p.ay.length false)):=by
    refine yJ (N:=N) (f:=qc N (ci ch)) ch _ (fun t x=>t.set x true) (fun t i=>(t,i)) (fun t=>t) (fun i hi t ht=>?_) (fun t=>?_) (by omega)
    · have htl : t.length = p.ay.length := by rw [ht, Fb, List.length_replicate]
      have hx:=hc _ (List.getElem_mem hi)
      have hci:idx (ci ch) (i:Int)=some ((ch[i]:Nat):Int):=by
        rw [iZ (by rw [hcl];exact hi)]
        unfold ci
        rw [List.getElem_map]
      unfold qc
      simp only []
      rw [bP,hcl,dT (by omega),qZ,hci,bS,yK (by rw [htl];exact hx),bS,pI (n:=i) (by omega),Int.toNat_natCast]
    · unfold qc
      simp only []
      rw [bP,hcl,dF (by omega),qg]
  rw [h1,bS]
  have hnm:∀ s ∈ ch.map (fun i=>p.ay[i]!.Name),Ep p s=true:=fun s hs=>by
    obtain ⟨i,hi,rfl⟩:=List.mem_map.1 hs
    have:=hc i hi
    exact Ox.2 ⟨_,by rw [xR this];exact List.getElem_mem _,rfl⟩
  have e:ch.foldl (fun t x=>t.set x true) (List.replicate p.ay.length false)=p.ay.map fun y=>MV (ch.map fun i=>p.ay[i]!.Name) y.Name:=by
    refine List.ext_getElem (by rw [Fb,List.length_replicate,List.length_map]) fun i h2 h3=>?_
    have hi:i<p.ay.length:=by rw [List.length_map] at h3;exact h3
    rw [foldl_set h2,List.getElem_map,xR (by rw [List.length_replicate];exact hi),List.getElem_replicate,Bool.or_false,Bool.eq_iff_iff,decide_eq_true_eq,QO,List.mem_map]
    constructor
    · intro h;exact ⟨i,h,by rw [xR hi]⟩
    · rintro ⟨j,hj,e⟩
      have:j=i:=ho.pd j i (hc j hj) hi (by rw [xR hi];exact e)
      rw [← this];exact hj
  rw [e,MK hp ho hN,bS,← RZ ho hnm]
  have e2:(ch.map fun i=>p.ay[i]!.Name).map (Qa p)=ch.map fun i=>p.ay[i]!:=by
    rw [List.map_map]
    refine List.map_congr_left fun i hi=>?_
    have:=hc i hi
    exact ho.UN (by rw [xR this];exact List.getElem_mem _)
  rw [e2]
  show (bif xQ p ch then _ else _)=_
  cases xQ p ch <;> rfl
include hp ho hn in
theorem UD:∀ (k fr:Nat) (ch:List Nat) (M:Nat),1000001+k≤M→k≤6→(∀ x ∈ ch,x<p.ay.length)→ch.length+k≤100→mP M p (k:Int) (fr:Int) (ci ch)=some (((Bd p.ay.length k fr ch).filter (xQ p)).map ci):=by
 have hlim:lim ≥ 10000000:=by decide
 intro k
 induction k with
 | zero =>
  intro fr ch M hM _ hc hl
  obtain ⟨M,rfl⟩:∃ m,M=m+1:=⟨M - 1,by omega⟩
  show pz M (mP M) p 0 (fr:Int) (ci ch)=some (([ch].filter (xQ p)).map ci)
  rw [P9 hp ho hn (by omega) hc (by omega),List.filter_cons]
  cases xQ p ch <;> rfl
 | succ k ih =>
  intro fr ch M hM hk hc hl
  obtain ⟨M,rfl⟩:∃ m,M=m+1:=⟨M - 1,by omega⟩
  show pz M (mP M) p ((k+1:Nat):Int) (fr:Int) (ci ch)=some ((((List.range' fr (p.ay.length - fr)).flatMap fun i=>Bd p.ay.length k (i+1) (ch ++ [i])).filter (xQ p)).map ci)
  have hcl:(ci ch).length=ch.length:=by unfold ci;rw [List.length_map]
  unfold pz
  rw [uU,dF (by omega),qg]
  have h6:6 ^ k≤7776:=Nat.pow_le_pow_right (n:=6) (by decide) (show k≤5 by omega)
  have key:∀ d i (acc:List (List Int)) (Q:Nat),i+d=max p.ay.length fr→d<Q→fr≤i→acc.length≤(i - fr) * 7776→dh (oC M (mP M) p ((k+1:Nat):Int) (ci ch)) Q (acc,(i:Int)) =
    some (acc ++ (((List.range' i (p.ay.length - i)).flatMap fun i=>Bd p.ay.length k (i+1) (ch ++ [i])).filter (xQ p)).map ci):=by
   intro d
   induction d with
   | zero =>
    intro i acc Q hi hQ hf ha
    obtain ⟨Q,rfl⟩:∃ m,Q=m+1:=⟨Q - 1,by omega⟩
    have e:oC M (mP M) p ((k+1:Nat):Int) (ci ch) (acc,(i:Int))=some (.inr acc):=by
     unfold oC
     simp only []
     rw [bP,dF (by omega),qg]
    rw [dh,e,show p.ay.length - i=0 by omega];simp
   | succ d ihd =>
    intro i acc Q hi hQ hf ha
    obtain ⟨Q,rfl⟩:∃ m,Q=m+1:=⟨Q - 1,by omega⟩
    have hlt:i<p.ay.length:=by omega
    have hci:ci ch ++ [(i:Int)]=ci (ch ++ [i]):=by unfold ci;simp
    have hr:=ih (i+1) (ch ++ [i]) M (by omega) (by omega) (fun x hx=>by
     rcases List.mem_append.1 hx with h | h
     ·exact hc x h
     ·rw [List.mem_singleton.1 h];exact hlt) (by simp;omega)
    have hlen:(((Bd p.ay.length k (i+1) (ch ++ [i])).filter (xQ p)).map ci).length≤7776:=by
     rw [List.length_map]
     exact Nat.le_trans (List.length_filter_le _ _) (Nat.le_trans (Ol hn) h6)
    have ha2:acc.length≤6 * 7776:=Nat.le_trans ha (Nat.mul_le_mul_right _ (by omega))
    have e:oC M (mP M) p ((k+1:Nat):Int) (ci ch) (acc,(i:Int))=some (.inl (acc ++ ((Bd p.ay.length k (i+1) (ch ++ [i])).filter (xQ p)).map ci,((i+1:Nat):Int))):=by
     unfold oC
     simp only []
     rw [bP,dT (by omega),qZ,Iz (by rw [hcl];simp only [List.length_nil];omega),bS,List.nil_append,Iz (by rw [hcl];simp only [List.length_singleton];omega),bS,hci,show ((k+1:Nat):Int) - 1=(k:Int) by omega,XR (by omega) (by omega),pI (by omega),hr,bS,Iz (by omega),bS]
    rw [dh,e]
    simp only []
    rw [ihd (i+1) _ Q (by omega) (by omega) (by omega) (by rw [List.length_append,show i+1 - fr=(i - fr)+1 by omega,Nat.succ_mul];omega)]
    rw [show p.ay.length - i=(p.ay.length - (i+1))+1 by omega,List.range'_succ,List.flatMap_cons,List.filter_append,List.map_append,List.append_assoc]
  rw [key (max p.ay.length fr - fr) fr [] M (by omega) (by omega) (Nat.le_refl _) (by simp),bS,List.nil_append]
end
end Go.KB
