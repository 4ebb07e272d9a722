/- Plain laws of chapter 7: the open permits are a possible set. The possible sets of permits, in their order. Reachable and Maximal. The greatest sets. No condition. -/
import Derived.Test.YtalkbgomndhkmaaGreatPZo
import Derived.Test.YtalkbgomndhkmaaGreatPZp
namespace Go.KB
set_option linter.unusedVariables false
theorem LC {e:Nat→Int}:∀ {k i:Nat},(∀ j,i≤j→j<i+k→e j=0)→dZ e k i=0:=fun {k i} h=>by
 rw [I4 (e':=fun _=>0) (fun j h1 h2 _=>h j h1 h2)];exact LD
theorem I5 {p:GPermitPlan} {l:List Str} (h1:∀ s ∈ l,zn p s=true) (h2:l.Nodup):I7 p l=0:=by
 refine LC fun j _ hj=>?_
 have hj':j<l.length:=by omega
 unfold eC
 rw [AY hj',if_neg (by rw [h1 _ (List.getElem_mem hj')];simp),if_neg]
 rw [U7]
 intro hm
 obtain ⟨i,hi,he⟩:=List.mem_take_iff_getElem.1 hm
 have h3:=(List.pairwise_iff_getElem.1 h2) i j (by omega) hj' (by omega)
 exact h3 he
end Go.KB
namespace Go.KB
set_option linter.unusedVariables false
theorem QN {β:Type} {c:β→β→Option Int} {k:β→β→Int} {xs:List β} (hc:∀ x ∈ xs,∀ y ∈ xs,c x y=some (k x y)) (h1:∀ x y,k x y≤0↔0≤k y x) (h2:∀ x y,k x y=0→x=y) (h3:∀ x y z,k x y≤0→k y z≤0→k x z≤0):CB c xs:=by
 have hl:∀ x ∈ xs,∀ y ∈ xs,Fq c x y=decide (k x y<0):=fun x hx y hy=>by unfold Fq;rw [hc x hx y hy]
 have h0:∀ x,k x x=0:=fun x=>by
  have:=h1 x x
  omega
 refine ⟨fun x hx y hy=>⟨_,hc x hx y hy⟩,fun x hx=>by rw [hl x hx x hx,h0];rfl,fun x hx y hy z hz a b=>?_,fun x hx y hy z hz a b=>?_,fun x hx y hy a b=>?_⟩
 ·rw [hl x hx y hy,decide_eq_true_eq] at a
  rw [hl y hy z hz,decide_eq_true_eq] at b
  rw [hl x hx z hz,decide_eq_true_eq]
  have h4:=h3 x y z (by omega) (by omega)
  by_cases h5:k x z=0
  ·have:=h2 _ _ h5
   subst this
   have h6:=(h1 x y).1 (by omega)
   omega
  ·omega
 ·rw [hl x hx y hy,decide_eq_false_iff_not] at a
  rw [hl y hy z hz,decide_eq_false_iff_not] at b
  rw [hl x hx z hz,decide_eq_false_iff_not]
  have h4:=h3 z y x ((h1 z y).2 (by omega)) ((h1 y x).2 (by omega))
  have h5:=(h1 z x).1 h4
  omega
 ·rw [hl x hx y hy,decide_eq_false_iff_not] at a
  rw [hl y hy x hx,decide_eq_false_iff_not] at b
  refine h2 _ _ ?_
  have h4:=(h1 x y).2 (by omega)
  omega
def Ac:List Int→List Int→Int
 | [],[]=>0
 | [],_ :: _=>-1
 | _ :: _,[]=>1
 | x :: a,y :: b=>if x<y then -1 else if y<x then 1 else Ac a b
theorem QO:∀ a b,Ac a b≤0↔0≤Ac b a:=by
 intro a
 induction a with
 | nil=>intro b;cases b <;> simp [Ac]
 | cons x a ih =>
  intro b
  cases b with
  | nil=>simp [Ac]
  | cons y b =>
   unfold Ac
   by_cases h1:x<y
   ·rw [if_pos h1,if_neg (by omega),if_pos h1];decide
   ·rw [if_neg h1]
    by_cases h2:y<x
    ·rw [if_pos h2,if_pos h2];decide
    ·rw [if_neg h2,if_neg h2,if_neg h1];exact ih b
theorem QR:∀ a b,Ac a b=0→a=b:=by
 intro a
 induction a with
 | nil=>intro b h;cases b with
  | nil=>rfl
  | cons _ _=>simp [Ac] at h
 | cons x a ih =>
  intro b h
  cases b with
  | nil=>simp [Ac] at h
  | cons y b =>
   unfold Ac at h
   by_cases h1:x<y
   ·rw [if_pos h1] at h;exact absurd h (by decide)
   ·rw [if_neg h1] at h
    by_cases h2:y<x
    ·rw [if_pos h2] at h;exact absurd h (by decide)
    ·rw [if_neg h2] at h
     rw [ih b h,show x=y by omega]
theorem O0:∀ a b c,Ac a b≤0→Ac b c≤0→Ac a c≤0:=by
 intro a
 induction a with
 | nil=>intro b c _ _;cases c <;> simp [Ac]
 | cons x a ih =>
  intro b c h1 h2
  cases b with
  | nil=>simp [Ac] at h1
  | cons y b =>
   cases c with
   | nil=>simp [Ac] at h2
   | cons z c =>
    unfold Ac at h1 h2 ⊢
    by_cases g1:x<y
    ·by_cases g2 : y < z
     ·rw [if_pos (by omega)];decide
     ·rw [if_neg g2] at h2
      by_cases g3:z<y
      ·rw [if_pos g3] at h2;exact absurd h2 (by decide)
      ·rw [if_pos (by omega)];decide
    ·rw [if_neg g1] at h1
     by_cases g3:y<x
     ·rw [if_pos g3] at h1;exact absurd h1 (by decide)
     ·rw [if_neg g3] at h1
      by_cases g2:y<z
      ·rw [if_pos (by omega)];decide
      ·rw [if_neg g2] at h2
       by_cases g4:z<y
       ·rw [if_pos g4] at h2;exact absurd h2 (by decide)
       ·rw [if_neg g4] at h2
        rw [if_neg (by omega),if_neg (by omega)]
        exact ih b c h1 h2
def Gl (a b:List Int):Int:=if a.length<b.length then -1 else if b.length<a.length then 1 else Ac a b
theorem QS (a b:List Int):Gl a b≤0↔0≤Gl b a:=by
 unfold Gl
 by_cases h1:a.length<b.length
 ·rw [if_pos h1,if_neg (by omega),if_pos h1];decide
 ·rw [if_neg h1]
  by_cases h2:b.length<a.length
  ·rw [if_pos h2,if_pos h2];decide
  ·rw [if_neg h2,if_neg h2,if_neg h1];exact QO a b
theorem QT (a b:List Int) (h:Gl a b=0):a=b:=by
 unfold Gl at h
 by_cases h1:a.length<b.length
 ·rw [if_pos h1] at h;exact absurd h (by decide)
 ·rw [if_neg h1] at h
  by_cases h2:b.length<a.length
  ·rw [if_pos h2] at h;exact absurd h (by decide)
  ·rw [if_neg h2] at h;exact QR a b h
theorem O1 (a b c:List Int) (h1:Gl a b≤0) (h2:Gl b c≤0):Gl a c≤0:=by
  unfold Gl at h1 h2 ⊢
  have e1:a.length≤b.length:=Nat.le_of_not_lt fun h=>by rw [if_neg (by omega),if_pos h] at h1;exact absurd h1 (by decide)
  have e2:b.length≤c.length:=Nat.le_of_not_lt fun h=>by rw [if_neg (by omega),if_pos h] at h2;exact absurd h2 (by decide)
  by_cases h:a.length<c.length
  · rw [if_pos h];decide
  · rw [if_neg h, if_neg (by omega)]
    rw [if_neg (by omega),if_neg (by omega)] at h1 h2
    exact O0 a b c h1 h2
theorem TQ {N:Nat} {a:Int}:sO N a=some false:=by
 unfold sO
 rw [qG];simp
theorem Ed {N:Nat} {a b:Int}:qj N a b=some (if a<b then -1 else if b<a then 1 else 0):=by
 unfold qj
 rw [TQ,TQ,bS,bS,sF,sF,bZ,rG]
 by_cases h1:a<b
 ·rw [dT h1,if_pos h1];rfl
 ·rw [dF h1,if_neg h1,sF]
  by_cases h2:b<a
  ·rw [dT h2,if_pos h2];rfl
  ·rw [dF h2,if_neg h2];rfl
theorem QU {a b:List Int}:∀ {i:Nat},(hi:i<a.length)→Ac (a.drop i) (b.drop i)=(if h:i<b.length then (if a[i]<b[i] then -1 else if b[i]<a[i] then 1 else Ac (a.drop (i+1)) (b.drop (i+1))) else 1):=by
 intro i hi
 rw [List.drop_eq_getElem_cons hi]
 by_cases h:i<b.length
 ·rw [dif_pos h,List.drop_eq_getElem_cons h];rfl
 ·rw [dif_neg h,List.drop_of_length_le (l:=b) (by omega)];rfl
theorem Gm {N:Nat} {a b:List Int} (ha:a.length<1000000) (hb:b.length<1000000) (hN:1000000≤N):lW N a b=some (Ac a b):=by
 have key:∀ k i M,i+k=a.length→k<M→∃ o,dA (eH N a b) M (i:Int)=some o∧Sum.elim (fun _=>if a.length<b.length then (-1:Int) else 0) (fun r=>r) o=Ac (a.drop i) (b.drop i):=by
  intro k
  induction k with
  | zero =>
   intro i M hi hM
   obtain ⟨M,rfl⟩:∃ m,M=m+1:=⟨M - 1,by omega⟩
   have e:eH N a b (i:Int)=some (.inr (.inl ())):=by
    unfold eH
    rw [bZ,dF (by omega),sF]
   refine ⟨.inl (),by rw [dA,e],?_⟩
   rw [List.drop_of_length_le (l:=a) (by omega)]
   simp only [Sum.elim_inl]
   by_cases h:a.length<b.length
   ·rw [if_pos h,List.drop_eq_getElem_cons (l:=b) (by omega)];rfl
   ·rw [if_neg h,List.drop_of_length_le (l:=b) (by omega)];rfl
  | succ k ih =>
   intro i M hi hM
   obtain ⟨M,rfl⟩:∃ m,M=m+1:=⟨M - 1,by omega⟩
   have hia:i<a.length:=by omega
   rw [QU hia]
   by_cases h:i<b.length
   ·rw [dif_pos h]
    have e:eH N a b (i:Int)=bif aO .neq (if a[i]<b[i] then -1 else if b[i]<a[i] then 1 else 0) 0 then some (.inr (Sum.inr (if a[i]<b[i] then -1 else if b[i]<a[i] then 1 else 0))) else some (.inl ((i+1:Nat):Int)):=by
     unfold eH
     rw [bZ,dT (by omega),vC,jw hia,bS,Au,dF (by omega),sF,jw h,bS,Ed,bS,qR (by omega)]
    by_cases h1:a[i]<b[i]
    ·rw [if_pos h1] at e
     exact ⟨.inr (-1),by rw [dA,e];rfl,by rw [if_pos h1];rfl⟩
    ·by_cases h2 : b[i] < a[i]
     ·rw [if_neg h1,if_pos h2] at e
      exact ⟨.inr 1,by rw [dA,e];rfl,by rw [if_neg h1,if_pos h2];rfl⟩
     ·rw [if_neg h1,if_neg h2] at e
      obtain ⟨o,h3,h4⟩:=ih (i+1) M (by omega) (by omega)
      exact ⟨o,by rw [dA,e];exact h3,by rw [if_neg h1,if_neg h2];exact h4⟩
   ·rw [dif_neg h]
    have e:eH N a b (i:Int)=some (.inr (Sum.inr 1)):=by
     unfold eH
     rw [bZ,dT (by omega),vC,jw hia,bS,Au,dT (by omega),vC]
    exact ⟨.inr 1,by rw [dA,e],rfl⟩
 obtain ⟨o,h1,h2⟩:=key a.length 0 N (by omega) (by omega)
 unfold lW
 have h1:dA (eH N a b) N 0=some o:=h1
 rw [h1,bS]
 rw [List.drop_zero,List.drop_zero] at h2
 cases o with
 | inl u =>
  simp only [Sum.elim_inl] at h2 ⊢
  rw [← h2,bZ]
  by_cases h:a.length<b.length
  ·rw [dT (by omega),if_pos h];rfl
  ·rw [dF (by omega),if_neg h];rfl
 | inr r=>simp only [Sum.elim_inr] at h2 ⊢;rw [h2]
theorem TR {N:Nat} {a b:Int} (hN:1000000≤N):yt N [a,b]=some (if a=0 then b else a):=by
  obtain ⟨N,rfl⟩:∃ m,N=m+3:=⟨N - 3,by omega⟩
  unfold yt
  have e0:lX (N+3) [a,b] 0=bif aO .neq a 0 then some (.inr (Sum.inr a)) else some (.inl 1):=rfl
  have e1:lX (N+3) [a,b] 1=bif aO .neq b 0 then some (.inr (Sum.inr b)) else some (.inl 2):=rfl
  have e2:lX (N+3) [a,b] 2=some (.inr (.inl ())):=rfl
  by_cases h:a=0
  · have e0 : lX (N + 3) [a, b] 0 = some (.inl 1) := by rw [e0, qG, dT h]; rfl
    rw [if_pos h,dA,e0]
    simp only []
    by_cases h1:b=0
    · have e1 : lX (N + 3) [a, b] 1 = some (.inl 2) := by rw [e1, qG, dT h1]; rfl
      rw [dA,e1]
      simp only []
      rw [dA,e2,h1];rfl
    · have e1 : lX (N + 3) [a, b] 1 = some (.inr (Sum.inr b)) := by rw [e1, qG, dF h1]; rfl
      rw [dA,e1];rfl
  · have e0 : lX (N + 3) [a, b] 0 = some (.inr (Sum.inr a)) := by rw [e0, qG, dF h]; rfl
    rw [if_neg h,dA,e0];rfl
theorem QV {N:Nat} {a b:List Int} (ha:a.length<1000000) (hb:b.length<1000000) (hN:1000000≤N):jW N a b=some (Gl a b):=by
  unfold jW
  rw [Ed,bS,Gm ha hb hN,bS,TR hN,bS]
  unfold Gl
  by_cases h1:a.length<b.length
  · have e : (if (a.length : Int) < (b.length : Int) then (-1 : Int) else if (b.length : Int) < a.length then 1 else 0) = -1 := if_pos (by omega)
    rw [e,if_pos h1];rfl
  · by_cases h2 : b.length < a.length
    · have e : (if (a.length : Int) < (b.length : Int) then (-1 : Int) else if (b.length : Int) < a.length then 1 else 0) = 1 := by rw [if_neg (by omega), if_pos (by omega)]
      rw [e,if_neg h1,if_pos h2];rfl
    · have e : (if (a.length : Int) < (b.length : Int) then (-1 : Int) else if (b.length : Int) < a.length then 1 else 0) = 0 := by rw [if_neg (by omega), if_neg (by omega)]
      rw [e,if_neg h1,if_neg h2];rfl
def rH (n b:Nat):List Nat:=(List.range n).filter fun i=>b.testBit i
def ul (p:GPermitPlan) (b:Nat):List aC:=(rH p.ay.length b).map fun i=>p.ay[i]!
def EG (p:GPermitPlan):List (List Int):=((List.range (2 ^ p.ay.length)).filter fun b=>vk p (ul p b)).map fun b=>(rH p.ay.length b).map fun (i:Nat)=>(i:Int)
def uS (p:GPermitPlan):List (List Int):=wY (fun a b=>some (Gl a b)) (EG p)
theorem Xv {b i:Nat} (hb:b<1024) (hi:i<20):((OV .i64 (b:Int) (i:Int)).bind fun v5=>some (aO .eql (OU .and .i64 v5 1) 1))=some (b.testBit i):=by
 have e1:OV .i64 (b:Int) (i:Int)=some ((b / 2 ^ i:Nat):Int):=by
  unfold OV
  rw [if_neg (by omega)]
  have:min (i:Int).toNat IntKind.i64.bits=i:=by
   show min (i:Int).toNat 64=i
   omega
  rw [this,Int.fdiv_eq_ediv_of_nonneg _ (by exact_mod_cast Nat.zero_le _)]
  congr 1
 have hq:b / 2 ^ i<1024:=Nat.lt_of_le_of_lt (Nat.div_le_self _ _) hb
 have e2:OU .and .i64 ((b / 2 ^ i:Nat):Int) 1=((b / 2 ^ i % 2:Nat):Int):=by
  unfold OU
  simp only []
  have e:(BitVec.ofInt IntKind.i64.bits ((b / 2 ^ i:Nat):Int) &&& BitVec.ofInt IntKind.i64.bits (1:Int)).toNat=b / 2 ^ i % 2:=by
   rw [BitVec.ofInt_natCast,BitVec.toNat_and,BitVec.toNat_ofNat]
   show b / 2 ^ i % 2 ^ 64 &&& 1=_
   rw [Nat.mod_eq_of_lt (by omega)]
   exact Nat.and_two_pow_sub_one_eq_mod _ 1
  rw [e]
  exact w64i (by omega) (by omega)
 rw [e1,bS,e2,Ar,Nat.testBit_eq_decide_div_mod_eq]
 congr 1
 rw [decide_eq_decide]
 omega
theorem CO {α β γ : Type} (g : α → Bool) (h1 : α → β) (h2 : α → γ) : ∀ (l : List α) (a : List β) (c : List γ), l.foldl (fun t x => bif g x then (t.1 ++ [h1 x], t.2 ++ [h2 x]) else t) (a, c) = (a ++ (l.filter g).map h1, c ++ (l.filter g).map h2)
  | [],a,c=>by simp
  | x :: r,a,c=>by
    rw [List.foldl_cons]
    cases hx:g x with
    | true =>
      rw [vC,CO g h1 h2 r]
      rw [List.filter_cons_of_pos hx];simp
    | false=>rw [sF,CO g h1 h2 r,List.filter_cons_of_neg (by rw [hx];decide)]
theorem I8 {β:Type} {c c':β→β→Option Int} {x:β}:∀ l,(∀ y ∈ l,Fq c y x=Fq c' y x)→Gg c x l=Gg c' x l
 | [],_=>rfl
 | y :: l,h=>by
  show (bif Fq c y x then y :: Gg c x l else x :: y :: l)=(bif Fq c' y x then y :: Gg c' x l else x :: y :: l)
  rw [h y List.mem_cons_self,I8 l fun z hz=>h z (List.mem_cons_of_mem _ hz)]
theorem FB {β:Type} {c c':β→β→Option Int}:∀ l,(∀ x ∈ l,∀ y ∈ l,Fq c x y=Fq c' x y)→wY c l=wY c' l
 | [],_=>rfl
 | x :: l,h=>by
  show Gg c x (wY c l)=Gg c' x (wY c' l)
  rw [FB l fun y hy z hz=>h y (List.mem_cons_of_mem _ hy) z (List.mem_cons_of_mem _ hz)]
  exact I8 _ fun y hy=>h y (List.mem_cons_of_mem _ ((vg c' l).mem_iff.1 hy)) x List.mem_cons_self
theorem Gn {n b i:Nat} (h:i ∈ rH n b):i<n:=by
 unfold rH at h
 exact List.mem_range.1 (List.mem_filter.1 h).1
theorem I9 {n b:Nat}:(rH n b).length≤n:=by
 unfold rH
 exact Nat.le_trans (List.length_filter_le _ _) (by rw [List.length_range];exact Nat.le_refl _)
theorem NJ {p:GPermitPlan} {a:List Int} (h:a ∈ EG p):∃ b,b<2 ^ p.ay.length∧vk p (ul p b)=true∧a=(rH p.ay.length b).map fun (i:Nat)=>(i:Int):=by
 unfold EG at h
 obtain ⟨b,hb,rfl⟩:=List.mem_map.1 h
 obtain ⟨h1,h2⟩:=List.mem_filter.1 hb
 exact ⟨b,List.mem_range.1 h1,h2,rfl⟩
theorem Ja {p:GPermitPlan} {b:Nat} (h1:b<2 ^ p.ay.length) (h2:vk p (ul p b)=true):((rH p.ay.length b).map fun (i:Nat)=>(i:Int)) ∈ EG p :=
 List.mem_map.2 ⟨b,List.mem_filter.2 ⟨List.mem_range.2 h1,h2⟩,rfl⟩
theorem vJ {p:GPermitPlan} {a:List Int}:a ∈ uS p↔a ∈ EG p:=(vg _ _).mem_iff
theorem NK {p:GPermitPlan}:(EG p).length≤2 ^ p.ay.length:=by
 unfold EG
 rw [List.length_map]
 exact Nat.le_trans (List.length_filter_le _ _) (by rw [List.length_range];exact Nat.le_refl _)
theorem CG {p:GPermitPlan} {a:List Int} (h:a ∈ EG p):a.length≤p.ay.length∧∀ i ∈ a,∃ k:Nat,i=(k:Int)∧k<p.ay.length:=by
 obtain ⟨b,_,_,rfl⟩:=NJ h
 refine ⟨by rw [List.length_map];exact I9,fun i hi=>?_⟩
 obtain ⟨k,hk,rfl⟩:=List.mem_map.1 hi
 exact ⟨k,rfl,Gn hk⟩
theorem pow10 {n:Nat} (h:n≤10):2 ^ n≤1024:=by
 have:=Nat.pow_le_pow_right (n:=2) (by decide) h
 exact this
section
variable {N:Nat} {p:GPermitPlan} (hp:LV p) (hN:1000000≤N) (hn:p.ay.length≤10)
include hN hn in
theorem QW {b:Nat} (hb:b<1024) (out:List (List Int)):dA (oz N p (out,(b:Int))) N ([],[],0)=some ((rH p.ay.length b).map (fun (i:Nat)=>(i:Int)),ul p b):=by
  have hlim:lim ≥ 10000000:=by decide
  have key:=CJ (N:=N) (f:=oz N p (out,(b:Int))) (List.range p.ay.length) (([]:List Int),([]:List aC)) (fun t i=>bif b.testBit i then (t.1 ++ [(i:Int)],t.2 ++ [p.ay[i]!]) else t) (fun t i=>(t.1,t.2,i)) (fun t=>(t.1,t.2)) (fun i hi t ht=>?_) (fun t=>?_) (by rw [List.length_range];omega)
  · rw [CO (fun i => b.testBit i) (fun (i : Nat) => (i : Int)) (fun i => p.ay[i]!)] at key
    exact key
  · rw [List.length_range] at hi
    rw [List.getElem_range]
    rw [CO (fun i=>b.testBit i) (fun (i:Nat)=>(i:Int)) (fun i=>p.ay[i]!)] at ht
    have hl:=List.length_filter_le (fun i=>b.testBit i) ((List.range p.ay.length).take i)
    have hl2:((List.range p.ay.length).take i).length≤10:=by rw [List.length_take,List.length_range];omega
    have ht1:t.1.length≤10:=by rw [ht];simp only [List.nil_append,List.length_map];omega
    have ht2:t.2.length≤10:=by rw [ht];simp only [List.nil_append,List.length_map];omega
    unfold oz
    simp only []
    have hbit:=Xv hb (i:=i) (by omega)
    cases hs:OV .i64 (b:Int) (i:Int) with
    | none=>rw [hs] at hbit;cases hbit
    | some v5 =>
      rw [hs,bS] at hbit
      rw [bZ,dT (by omega),vC,BI hi,bS,bS,Option.some.inj hbit]
      cases b.testBit i with
      | true=>rw [vC,vC,JB (by simp only [List.length_singleton];omega),bS,JB (by simp only [List.length_singleton];omega),bS,qR (by omega)]
      | false=>rw [sF,sF,qR (by omega)]
  · unfold oz
    simp only [List.length_range]
    rw [bZ,dF (by omega),sF]
theorem O3 {b:Nat} {x:aC} (h:x ∈ ul p b):x ∈ p.ay:=by
 unfold ul at h
 obtain ⟨i,hi,rfl⟩:=List.mem_map.1 h
 rw [AY (Gn hi)]
 exact List.getElem_mem _
theorem O4 {b:Nat}:(ul p b).length≤p.ay.length:=by
 unfold ul;rw [List.length_map];exact I9
include hp hN hn in
theorem TS:dA (ou N p ((2 ^ p.ay.length:Nat):Int)) N ([],0)=some (EG p):=by
 have hlim:lim ≥ 10000000:=by decide
 have h10:=pow10 hn
 rw [Hu (f:=ou N p ((2 ^ p.ay.length:Nat):Int)) (List.range (2 ^ p.ay.length)) [] (fun b=>vk p (ul p b)) (fun b=>(rH p.ay.length b).map fun (i:Nat)=>(i:Int)) (fun a i=>(a,i)) (fun a=>a) (fun j hj acc hacc=>?_) (fun acc=>?_) (by rw [List.length_range];omega)]
 ·rfl
 ·rw [List.length_range] at hj hacc
  rw [List.getElem_range]
  unfold ou
  simp only []
  rw [bZ,dT (by omega),vC,QW hN hn (by omega),bS]
  simp only []
  rw [GV hp (Nat.lt_of_le_of_lt O4 (by omega)) (fun x hx=>hp.l x (O3 hx)) hN,bS]
  simp only [List.length_nil] at hacc
  cases vk p (ul p j) with
  | true=>rw [vC,vC,JB (by simp only [List.length_singleton];omega),bS,qR (by omega)]
  | false=>rw [sF,sF,qR (by omega)]
 ·unfold ou
  simp only [List.length_range]
  rw [bZ,dF (by omega),sF]
include hp hN hn in
theorem U8:vU N p=some (uS p):=by
 have h10:=pow10 hn
 have h64:TD .i64 1 (p.ay.length:Int)=some ((2 ^ p.ay.length:Nat):Int):=by
  unfold TD
  rw [if_neg (by omega)]
  have:min (p.ay.length:Int).toNat IntKind.i64.bits=p.ay.length:=by
   show min (p.ay.length:Int).toNat 64=_
   omega
  rw [this,Int.one_mul,show (2:Int) ^ p.ay.length=((2 ^ p.ay.length:Nat):Int) from (Int.natCast_pow 2 _).symm]
  generalize 2 ^ p.ay.length=q at h10
  rw [w64i (by omega) (by omega)]
 unfold vU
 rw [h64,bS,TS hp hN hn,bS]
 have hcmp:∀ x ∈ EG p,∀ y ∈ EG p,jW N x y=some (Gl x y):=fun x hx y hy=>by
  have h1:=(CG hx).1
  have h2:=(CG hy).1
  exact QV (by omega) (by omega) hN
 have hs:CB (fun y0 y1=>jW N y0 y1) (EG p):=QN hcmp QS QT O1
 have hl:=NK (p:=p)
 have e:ng N (EG p) (fun y0 y1=>jW N y0 y1)=some (uS p):=by
  unfold ng
  rw [OW hs (by omega)]
  congr 1
  exact FB _ fun x hx y hy=>by
   show (match jW N x y with | some n=>decide (n<0) | none=>false)=_
   rw [hcmp x hx y hy];rfl
 rw [e];rfl
end
end Go.KB
namespace Go.KB
set_option linter.unusedVariables false
theorem U9 {α:Type} {l:List α} {N:Nat} {f:(Bool×Int)→Option ((Bool×Int) ⊕ Bool)} {g:α→Bool} (hf:∀ (i:Nat) (h:i<l.length) (b:Bool),f (b,(i:Int))=some (.inl (b||g l[i],((i+1:Nat):Int)))) (he:∀ b,f (b,(l.length:Int))=some (.inr b)) (hN:l.length<N):dA f N (false,0)=some (l.any g):=by
 rw [CJ (f:=f) l false (fun b x=>b||g x) (fun b i=>(b,i)) (fun b=>b) (fun i hi t _=>hf i hi t) he hN]
 congr 1
 have:∀ (l:List α) (b:Bool),l.foldl (fun b x=>b||g x) b=(b||l.any g):=by
  intro l
  induction l with
  | nil=>intro b;simp
  | cons x l ih=>intro b;rw [List.foldl_cons,ih,List.any_cons,Bool.or_assoc]
 rw [this];rfl
def Di (a b:List Str):Bool:=b.all fun s=>a.any fun t=>decide (t=s)
theorem contains_eq {N:Nat} {a b:List Str} (ha:a.length<1000000) (hb:b.length<1000000) (hN:1000000≤N):oD N a b=some (Di a b):=by
 unfold oD
 have h2:dA (nS N a b) N 0=some (bif Di a b then Sum.inl () else Sum.inr false):=by
  refine BH (fun i hi=>?_) ?_ (by omega)
  ·unfold nS
   have h1:dA (nT N a b (i:Int)) N (false,0)=some (a.any fun t=>decide (t=b[i])):=by
    refine U9 (fun j hj c=>?_) (fun c=>?_) (by omega)
    ·unfold nT
     simp only []
     rw [bZ,dT (by omega),vC,qR (by omega)]
     cases c with
     | true=>rfl
     | false=>simp only [Bool.not_false,vC];rw [jw hj,bS,jw hi,bS,vw]
    ·unfold nT
     simp only []
     rw [bZ,dF (by omega),sF]
   rw [bZ,dT (by omega),vC,h1,bS,qR (by omega)]
   cases a.any fun t=>decide (t=b[i]) <;> rfl
  ·unfold nS
   rw [bZ,dF (by omega),sF]
 rw [h2,bS]
 cases Di a b <;> rfl
theorem QX {N:Nat} {l:List (List Int)} {f:List Int→Option Bool} {g:List Int→Bool} (hf:∀ y ∈ l,f y=some (g y)) (hl:l.length<1000000) (hN:1000000≤N):jy N l f=some (l.any g):=by
 unfold jy mD
 have h:((dA (iZ N l f) N 0).bind fun o6=>Sum.elim (fun l8=>some (-1)) (fun r9=>some r9) o6)=some (Jl g l):=by
  refine vK (fun i hi=>?_) ?_ (by omega)
  ·unfold iZ
   rw [bZ,dT (by omega),vC,jw hi,bS,hf _ (List.getElem_mem hi),bS,qR (by omega)]
  ·unfold iZ
   rw [bZ,dF (by omega),sF]
 rw [h,bS,LG]
theorem QY {N:Nat} {l:List Int} {f:Int→Option Bool} {g:Int→Bool} (hf:∀ y ∈ l,f y=some (g y)) (hl:l.length<1000000) (hN:1000000≤N):jO N l f=some (l.any g):=by
 unfold jO nM
 have h:((dA (jg N l f) N 0).bind fun o6=>Sum.elim (fun l8=>some (-1)) (fun r9=>some r9) o6)=some (Jl g l):=by
  refine vK (fun i hi=>?_) ?_ (by omega)
  ·unfold jg
   rw [bZ,dT (by omega),vC,jw hi,bS,hf _ (List.getElem_mem hi),bS,qR (by omega)]
  ·unfold jg
   rw [bZ,dF (by omega),sF]
 rw [h,bS,LG]
def BG (p:GPermitPlan) (a:List Int):List Str:=a.map fun i=>p.ay[i.toNat]!.Name
def xZ (a b:List Int):Bool:=decide (a.length<b.length)&&a.all (fun i=>b.contains i)
def pq (p:GPermitPlan):List (List Int):=(uS p).filter fun a=>!(uS p).any (xZ a)
section
variable {N:Nat} {p:GPermitPlan} (hp:LV p) (hN:1000000≤N) (hn:p.ay.length≤10)
theorem NH (hn:p.ay.length≤10):(uS p).length≤1024:=by
 have h1:(uS p).length=(EG p).length:=(vg _ _).length_eq
 have h2:=NK (p:=p)
 have h3:=pow10 hn
 omega
include hN hn in
theorem TT {l:List (List Int)} (hl:l.length<1000000) (hm:∀ a ∈ l,a ∈ EG p):uV N p l=some (l.map (BG p)):=by
 have hlim:lim ≥ 10000000:=by decide
 unfold uV
 rw [Hu (f:=oV N p l) l [] (fun _=>true) (BG p) (fun a i=>(a,i)) (fun a=>a) (fun j hj acc hacc=>?_) (fun acc=>?_) (by omega)]
 ·rw [List.filter_eq_self.2 (fun _ _=>rfl)];rfl
 ·simp only [List.length_nil] at hacc
  obtain ⟨h1,h2⟩:=CG (hm _ (List.getElem_mem hj))
  have h3:dA (nN N p l[j]) N ([],0)=some (BG p l[j]):=by
   rw [Hu (f:=nN N p l[j]) l[j] [] (fun _=>true) (fun i=>p.ay[i.toNat]!.Name) (fun a i=>(a,i)) (fun a=>a) (fun k hk acc hacc=>?_) (fun acc=>?_) (by omega)]
   ·rw [List.filter_eq_self.2 (fun _ _=>rfl)];rfl
   ·simp only [List.length_nil] at hacc
    obtain ⟨m,h4,h5⟩:=h2 _ (List.getElem_mem hk)
    unfold nN
    simp only []
    rw [bZ,dT (by omega),vC,jw hk,bS,h4,BI h5,bS,JB (by simp only [List.length_singleton];omega),bS,qR (by omega)];rfl
   ·unfold nN
    simp only []
    rw [bZ,dF (by omega),sF]
  unfold oV
  simp only []
  rw [bZ,dT (by omega),vC,jw hj,bS,h3,bS,JB (by simp only [List.length_singleton];omega),bS,qR (by omega)];rfl
 ·unfold oV
  simp only []
  rw [bZ,dF (by omega),sF]
include hp hN in
theorem QZ:uU N p=some (if lC p≠0 then lC p else if 10<p.ay.length then 8 else 0):=by
  unfold uU
  rw [FC hp hN,bS,qG,rG]
  by_cases h:lC p=0
  · rw [dT h, if_neg (fun e => e h), Bool.not_true, sF]
    by_cases h2:10<p.ay.length
    · rw [dT (by omega),if_pos h2];rfl
    · rw [dF (by omega),if_neg h2];rfl
  · rw [dF h,if_pos h];rfl
include hp hN hn in
include hp hN hn in
theorem OY (hc:lC p=0):sS N p=some ((pq p).map (BG p),0):=by
  have hlim:lim ≥ 10000000:=by decide
  have hl:=NH hn
  unfold sS
  rw [QZ hp hN,if_neg (fun e=>e hc),if_neg (by omega),bS,qG,dT rfl,Bool.not_true,sF,U8 hp hN hn,bS]
  have h1:dA (lI N (uS p)) N ([],0)=some (pq p):=by
    rw [Hu (f:=lI N (uS p)) (uS p) [] (fun a=>!(uS p).any (xZ a)) (fun a=>a) (fun a i=>(a,i)) (fun a=>a) (fun j hj acc hacc=>?_) (fun acc=>?_) (by omega)]
    · simp [pq]
    · simp only [List.length_nil] at hacc
      have hw:∀ y ∈ uS p,oC N y (uS p)[j]=some (xZ (uS p)[j] y):=fun y hy=>by
        have h3:=(CG (vJ.1 hy)).1
        have h4:=(CG (vJ.1 (List.getElem_mem hj))).1
        unfold oC xZ
        rw [rG]
        by_cases hlt:(uS p)[j].length<y.length
        · rw [dT (by omega), dT hlt, vC, QY (g := fun i => !y.contains i) (fun i _ => by unfold oN; rw [TU (by omega) hN]; rfl) (by omega) hN, bS, Bool.true_and, Bool.true_and]
          congr 1
          rw [List.not_any_eq_all_not];simp only [Bool.not_not]
        · rw [dF (by omega),dF hlt];rfl
      unfold lI
      simp only []
      rw [bZ,dT (by omega),vC,jw hj,bS,QX hw (by omega) hN,bS]
      cases (uS p).any (xZ (uS p)[j]) with
      | true=>simp only [Bool.not_true,sF];rw [qR (by omega)]
      | false=>simp only [Bool.not_false,vC];rw [JB (by simp only [List.length_singleton];omega),bS,qR (by omega)]
    · unfold lI
      simp only []
      rw [bZ,dF (by omega),sF]
  have h2:(pq p).length≤(uS p).length:=List.length_filter_le _ _
  rw [h1,bS,TT hN hn (l:=pq p) (by omega) (fun a ha=>vJ.1 (List.mem_filter.1 ha).1),bS]
end
theorem Va (n:Nat):∀ φ:Nat→Bool,∃ b,b<2 ^ n∧∀ i,i<n→b.testBit i=φ i:=by
 induction n with
 | zero=>exact fun φ=>⟨0,by decide,fun i hi=>by omega⟩
 | succ n ih =>
  intro φ
  obtain ⟨b,h1,h2⟩:=ih fun i=>φ (i+1)
  refine ⟨2 * b+(bif φ 0 then 1 else 0),?_,fun i hi=>?_⟩
  ·rw [Nat.pow_succ];cases φ 0 <;> simp only [vC,sF] <;> omega
  ·cases i with
   | zero =>
    rw [Nat.testBit_zero]
    cases φ 0 with
    | true=>simp only [vC,decide_eq_true_eq];omega
    | false=>simp only [sF,decide_eq_false_iff_not];omega
   | succ i =>
    rw [Nat.testBit_succ,show (2 * b+(bif φ 0 then 1 else 0)) / 2=b by cases φ 0 <;> simp only [vC,sF] <;> omega]
    exact h2 i (by omega)
theorem Jb {α : Type} [Inhabited α] (f : α → Bool) : ∀ l : List α, ((List.range l.length).filter fun i => f l[i]!).map (fun i => l[i]!) = l.filter f
  | []=>rfl
  | x :: l=>by
    have ih:=Jb f l
    rw [List.length_cons,List.range_succ_eq_map,List.filter_cons,List.filter_map,List.filter_cons]
    have e:((fun i=>f (x :: l)[i]!) ∘ Nat.succ)=fun i=>f l[i]!:=by funext i;simp
    rw [e]
    have e0:(x :: l)[0]! = x:=rfl
    have e2:∀ m:List Nat,(m.map Nat.succ).map (fun i=>(x :: l)[i]!)=m.map fun i=>l[i]!:=fun m=>by rw [List.map_map];refine List.map_congr_left fun i _=>?_;simp
    cases hf:f x with
    | true=>rw [e0,if_pos hf,if_pos rfl,List.map_cons,e0,e2,ih]
    | false=>rw [e0,hf,if_neg (by decide),if_neg (by decide),e2,ih]
theorem NM {p:GPermitPlan} {φ:aC→Bool} (h:vk p (p.ay.filter φ)=true):∃ b,b<2 ^ p.ay.length∧vk p (ul p b)=true∧(∀ i,i<p.ay.length→b.testBit i=φ p.ay[i]!)∧BG p ((rH p.ay.length b).map fun (i:Nat)=>(i:Int))=(p.ay.filter φ).map fun x=>x.Name:=by
 obtain ⟨b,h1,h2⟩:=Va p.ay.length fun i=>φ p.ay[i]!
 have e:rH p.ay.length b=(List.range p.ay.length).filter fun i=>φ p.ay[i]!:=by
  unfold rH
  exact List.filter_congr fun i hi=>h2 i (List.mem_range.1 hi)
 have e2:ul p b=p.ay.filter φ:=by
  unfold ul
  rw [e];exact Jb φ p.ay
 refine ⟨b,h1,by rw [e2];exact h,h2,?_⟩
 rw [← e2]
 unfold BG ul
 rw [List.map_map,List.map_map]
 exact List.map_congr_left fun i _=>by simp
theorem Vb {p:GPermitPlan} {φ:aC→Bool} (h:vk p (p.ay.filter φ)=true):∃ a ∈ uS p,BG p a=(p.ay.filter φ).map fun x=>x.Name:=by
 obtain ⟨b,h1,h2,_,h4⟩:=NM h
 exact ⟨_,vJ.2 (Ja h1 h2),h4⟩
theorem Q5 {p:GPermitPlan}:∀ (k:Nat) (a:List Int),a ∈ uS p→p.ay.length≤a.length+k→∃ m ∈ pq p,∀ i ∈ a,i ∈ m:=by
 intro k
 induction k with
 | zero =>
  intro a ha hk
  refine ⟨a,List.mem_filter.2 ⟨ha,?_⟩,fun i hi=>hi⟩
  rw [Bool.not_eq_true',List.any_eq_false]
  intro b hb
  have:=(CG (vJ.1 hb)).1
  unfold xZ
  rw [dF (by omega),Bool.false_and];decide
 | succ k ih =>
  intro a ha hk
  cases h:(uS p).any (xZ a) with
  | false=>exact ⟨a,List.mem_filter.2 ⟨ha,by rw [h];rfl⟩,fun i hi=>hi⟩
  | true =>
   obtain ⟨b,hb,hw⟩:=List.any_eq_true.1 h
   unfold xZ at hw
   rw [Bool.and_eq_true,decide_eq_true_eq,List.all_eq_true] at hw
   obtain ⟨m,hm,hs⟩:=ih b hb (by omega)
   exact ⟨m,hm,fun i hi=>hs i (List.contains_iff_mem.1 (hw.2 i hi))⟩
theorem Jc {p:GPermitPlan} {a:List Int} (ha:a ∈ uS p):∃ m ∈ pq p,Di (BG p m) (BG p a)=true:=by
 obtain ⟨m,hm,h⟩:=Q5 p.ay.length a ha (by omega)
 refine ⟨m,hm,?_⟩
 unfold Di
 rw [List.all_eq_true]
 intro s hs
 unfold BG at hs
 obtain ⟨i,hi,rfl⟩:=List.mem_map.1 hs
 rw [List.any_eq_true]
 exact ⟨_,List.mem_map.2 ⟨i,h i hi,rfl⟩,by rw [decide_eq_true_eq]⟩
end Go.KB
namespace Go.KB
set_option linter.unusedVariables false
theorem TV {p:GPermitPlan} {l l':List aC} (h:∀ x,x ∈ l↔x ∈ l'):vk p l=vk p l':=by
 rw [Bool.eq_iff_iff,J7,J7]
 constructor
 ·rintro ⟨h1,h2⟩
  refine ⟨fun x hx y hy=>h1 x ((h x).2 hx) y ((h y).2 hy),fun x hx k hk=>?_⟩
  obtain ⟨y,hy,e⟩:=h2 x ((h x).2 hx) k hk
  exact ⟨y,(h y).1 hy,e⟩
 ·rintro ⟨h1,h2⟩
  refine ⟨fun x hx y hy=>h1 x ((h x).1 hx) y ((h y).1 hy),fun x hx k hk=>?_⟩
  obtain ⟨y,hy,e⟩:=h2 x ((h x).1 hx) k hk
  exact ⟨y,(h y).2 hy,e⟩
theorem NP {p:GPermitPlan} {l:List Str} (h:I7 p l=0):∀ s ∈ l,zn p s=true:=fun s hs=>by
 obtain ⟨i,hi,rfl,he⟩:=zo h hs
 unfold eC at he
 cases hh:zn p l[i]! with
 | true=>rfl
 | false=>rw [hh,if_pos (by simp)] at he;exact absurd he (by decide)
theorem filter_lt {f g:Nat→Bool}:∀ {l:List Nat},(∀ x ∈ l,f x=true→g x=true)→∀ {k},k ∈ l→f k=false→g k=true→(l.filter f).length<(l.filter g).length:=by
  have hle:∀ l:List Nat,(∀ x ∈ l,f x=true→g x=true)→(l.filter f).length≤(l.filter g).length:=by
    intro l
    induction l with
    | nil=>intro _;exact Nat.le_refl _
    | cons x l ih =>
      intro h
      have:=ih fun y hy=>h y (List.mem_cons_of_mem _ hy)
      have hx:=h x List.mem_cons_self
      rw [List.filter_cons,List.filter_cons]
      cases hf:f x with
      | true=>rw [if_pos rfl,if_pos (hx hf)];simp only [List.length_cons];omega
      | false=>rw [if_neg (by decide)];cases g x <;> simp <;> omega
  intro l
  induction l with
  | nil=>intro _ k hk;cases hk
  | cons x l ih =>
    intro h k hk h1 h2
    have ht:=fun y hy=>h y (List.mem_cons_of_mem x hy)
    rw [List.filter_cons,List.filter_cons]
    rcases List.mem_cons.1 hk with rfl | hk
    · rw [h1, h2, if_neg (by decide), if_pos rfl]
      have:=hle l ht
      simp only [List.length_cons];omega
    · have:=ih ht hk h1 h2
      cases hf:f x with
      | true=>rw [if_pos rfl,if_pos (h x List.mem_cons_self hf)];simp only [List.length_cons];omega
      | false=>rw [if_neg (by decide)];cases g x <;> simp <;> omega
def stB (n b:Nat):List Int:=(rH n b).map fun (i:Nat)=>(i:Int)
theorem LH {p:GPermitPlan} {b:Nat} {s:Str}:s ∈ BG p (stB p.ay.length b)↔∃ i,i<p.ay.length∧b.testBit i=true∧p.ay[i]!.Name=s:=by
 unfold BG stB rH
 rw [List.map_map,List.mem_map]
 constructor
 ·rintro ⟨i,hi,rfl⟩
  obtain ⟨h1,h2⟩:=List.mem_filter.1 hi
  exact ⟨i,List.mem_range.1 h1,h2,rfl⟩
 ·rintro ⟨i,h1,h2,rfl⟩
  exact ⟨i,List.mem_filter.2 ⟨List.mem_range.2 h1,h2⟩,rfl⟩
theorem NI {p:GPermitPlan} (ho:Us p) {b:Nat}:(BG p (stB p.ay.length b)).Nodup:=by
 unfold BG stB rH
 rw [List.map_map]
 exact List.pairwise_map.2 ((List.nodup_range.filter _).imp_of_mem fun hi hj hne e=>hne (ho.pd _ _ (List.mem_range.1 (List.mem_filter.1 hi).1) (List.mem_range.1 (List.mem_filter.1 hj).1) e))
theorem TN {p:GPermitPlan} {b:Nat}:∀ s ∈ BG p (stB p.ay.length b),zn p s=true:=fun s hs=>by
 obtain ⟨i,h1,_,rfl⟩:=LH.1 hs
 exact Fz.2 ⟨_,by rw [AY h1];exact List.getElem_mem _,rfl⟩
theorem TW {p:GPermitPlan} (ho:Us p) {b:Nat}:(BG p (stB p.ay.length b)).map (LJ p)=ul p b:=by
 unfold BG stB ul
 rw [List.map_map,List.map_map]
 refine List.map_congr_left fun i hi=>?_
 have:=Gn hi
 show LJ p p.ay[((i:Int)).toNat]!.Name=_
 rw [Int.toNat_natCast,ho.TY (by rw [AY this];exact List.getElem_mem _)]
theorem TM {p:GPermitPlan} (hc:lC p=0) {b:Nat} (h:vk p (ul p b)=true):xA p (BG p (stB p.ay.length b))=(true,0):=by
 have ho:=okP hc
 unfold xA
 rw [if_neg (by simp [hc]),if_pos (I5 TN (NI ho)),TW ho,h]
theorem names_in {p:GPermitPlan} (hc:lC p=0) {l:List Str} (h:xA p l=(true,0)):∃ b,b<2 ^ p.ay.length∧vk p (ul p b)=true∧∀ i,i<p.ay.length→(b.testBit i=true↔p.ay[i]!.Name ∈ l):=by
 have ho:=okP hc
 unfold xA at h
 rw [if_neg (by simp [hc])] at h
 by_cases he:I7 p l=0
 ·rw [if_pos he] at h
  have hb:vk p (l.map (LJ p))=true:=(Prod.mk.inj h).1
  have hh:=NP he
  have hm:∀ x,x ∈ l.map (LJ p)↔x ∈ p.ay.filter fun x=>decide (x.Name ∈ l):=fun x=>by
   rw [List.mem_map,List.mem_filter,decide_eq_true_eq]
   constructor
   ·rintro ⟨s,hs,rfl⟩
    obtain ⟨h1,h2⟩:=Jd (hh s hs)
    exact ⟨h1,by rw [h2];exact hs⟩
   ·rintro ⟨h1,h2⟩
    exact ⟨_,h2,ho.TY h1⟩
  rw [TV hm] at hb
  obtain ⟨b,h1,h2,h3,_⟩:=NM hb
  exact ⟨b,h1,h2,fun i hi=>by rw [h3 i hi,decide_eq_true_eq]⟩
 ·rw [if_neg he] at h;exact absurd (Prod.mk.inj h).1 (by decide)
theorem OZ {p:GPermitPlan} (hc:lC p=0) {l:List Str} (h:xA p l=(true,0)):∃ m ∈ pq p,Di (BG p m) l=true:=by
 have hh:∀ s ∈ l,zn p s=true:=by
  unfold xA at h
  rw [if_neg (by simp [hc])] at h
  by_cases he:I7 p l=0
  ·exact NP he
  ·rw [if_neg he] at h;exact absurd (Prod.mk.inj h).1 (by decide)
 obtain ⟨b,h1,h2,h3⟩:=names_in hc h
 obtain ⟨m,hm,hs⟩:=Jc (vJ.2 (Ja h1 h2))
 refine ⟨m,hm,?_⟩
 unfold Di at hs ⊢
 rw [List.all_eq_true] at hs ⊢
 intro s hsl
 obtain ⟨x,hx,hxn⟩:=Fz.1 (hh s hsl)
 obtain ⟨i,hi,rfl⟩:=List.getElem_of_mem hx
 refine hs s (LH.2 ⟨i,hi,?_,by rw [AY hi];exact hxn⟩)
 rw [h3 i hi,AY hi,hxn];exact hsl
theorem J5 {p:GPermitPlan} {m:List Int} (h:m ∈ pq p):∃ b,b<2 ^ p.ay.length∧vk p (ul p b)=true∧m=stB p.ay.length b∧(uS p).any (xZ m)=false:=by
 obtain ⟨h1,h2⟩:=List.mem_filter.1 h
 obtain ⟨b,h3,h4,h5⟩:=NJ (vJ.1 h1)
 exact ⟨b,h3,h4,h5,by simpa using h2⟩
theorem U6 {p:GPermitPlan} (hc:lC p=0) {m:List Int} (hm:m ∈ pq p) {k:Nat} (hk:k<p.ay.length) {l:List Str} (h1:∀ s ∈ BG p m,s ∈ l) (h2:p.ay[k]!.Name ∈ l) (h3:p.ay[k]!.Name ∉ BG p m) (h4:∀ s ∈ l,zn p s=true) (h5:l.Nodup):xA p l=(false,0):=by
 have hz:=I5 h4 h5
 cases hb:vk p (l.map (LJ p)) with
 | false =>
  unfold xA
  rw [if_neg (by simp [hc]),if_pos hz,hb]
 | true =>
  have hC:xA p l=(true,0):=by
   unfold xA
   rw [if_neg (by simp [hc]),if_pos hz,hb]
  exfalso
  obtain ⟨b,g1,g2,g3⟩:=names_in hc hC
  obtain ⟨c,c1,c2,rfl,c4⟩:=J5 hm
  rw [List.any_eq_false] at c4
  refine c4 _ (vJ.2 (Ja g1 g2)) ?_
  have hsub:∀ i,i<p.ay.length→c.testBit i=true→b.testBit i=true:=fun i hi h=>by
   rw [g3 i hi]
   exact h1 _ (LH.2 ⟨i,hi,h,rfl⟩)
  unfold xZ
  rw [Bool.and_eq_true,decide_eq_true_eq,List.all_eq_true]
  refine ⟨?_,fun i hi=>?_⟩
  ·unfold stB
   rw [List.length_map,List.length_map]
   refine filter_lt (fun i hi h=>hsub i (List.mem_range.1 hi) h) (List.mem_range.2 hk) ?_ ((g3 k hk).2 h2)
   cases hq:c.testBit k with
   | false=>rfl
   | true=>exact absurd (LH.2 ⟨k,hk,hq,rfl⟩) h3
  ·unfold stB rH at hi
   obtain ⟨j,hj,rfl⟩:=List.mem_map.1 hi
   obtain ⟨j1,j2⟩:=List.mem_filter.1 hj
   rw [List.contains_iff_mem]
   exact List.mem_map.2 ⟨j,List.mem_filter.2 ⟨j1,hsub j (List.mem_range.1 j1) j2⟩,rfl⟩
theorem QM {p:GPermitPlan}:pq p≠[]:=by
 have h0:vk p (p.ay.filter fun _=>false)=true:=by
  rw [List.filter_eq_nil_iff.2 (fun _ _=>by decide)];rfl
 obtain ⟨a,ha,_⟩:=Vb h0
 obtain ⟨m,hm,_⟩:=Jc ha
 exact List.ne_nil_of_mem hm
end Go.KB
