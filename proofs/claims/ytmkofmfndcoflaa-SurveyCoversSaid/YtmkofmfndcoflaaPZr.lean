/- Plain laws: grades of panels. Rectangles in order; the first pair that has a cell in common. Rectangles that have a cell in common become one. Both programs join the same pair. The cells that are connected and the rectangle around them. The renewals of a panel. The renewals of a panel: the groups. Plain laws: the sample is right. Plain laws: each cell in at most one rectangle, each rectangle held on all sides. No condition. -/
import Derived.Test.YtmkofmfndcoflaaPPan
import Derived.Test.YtmkofmfndcoflaaPZa
import Derived.Test.YtmkofmfndcoflaaPSo
namespace Go.KB
set_option linter.unusedVariables false
theorem take_one {α:Type} {l:List α} {i:Nat} (hi:i<l.length):l.take (i+1)=l.take i ++ [l[i]]:=List.take_succ_eq_append_getElem hi
def jk (p:GPanel) (r:GRule) (t:Int):Int :=
 bif (ai .eql t 0) then 0 else (bif (ai .geq (IntKind.i64.wrap (1000 * (max (IntKind.i64.wrap (p.ig - t)) 0))) (IntKind.i64.wrap (r.lX * p.ig))) then 3 else (bif (ai .geq (IntKind.i64.wrap (1000 * (max (IntKind.i64.wrap (p.ig - t)) 0))) (IntKind.i64.wrap (r.dn * p.ig))) then 2 else 1))
theorem Je {N:Nat} {p:GPanel} {r:GRule} {t:Int}:lm N p r t=some (jk p r t):=by
 unfold lm oU jk
 cases ai .eql t 0 with
 | true=>rfl
 | false=>simp only [qj,bS,Jf]
theorem Ai {N:Nat} {p:GPanel} {r:GRule} (h:p.Readings.length<9223372036854775807) (hN:2 ^ 64≤N):iK N p r=some (if eG p=0 then (if kG r=0 then (p.Readings.map (jk p r),0) else ([],kG r)) else ([],eG p)):=by
  unfold iK
  rw [AZ h hN,bS,jB,CP]
  by_cases he:eG p=0
  · rw [show (!decide (eG p = 0)) = false by simp [he], qj, if_pos he, bS, jB]
    by_cases hr:kG r=0
    · rw [show (!decide (kG r = 0)) = false by simp [hr], qj, if_pos hr]
      obtain ⟨b1,b2,hlen,hall⟩:=rZ he
      have:=E8 (f:=iM N p r) p.Readings.length (fun i=>(p.Readings.take i).map (jk p r)) (p.Readings.map (jk p r)) (by
        intro i hi
        unfold iM
        simp only []
        rw [dN,show decide ((i:Int)<(p.Readings.length:Int))=true by rw [decide_eq_true_eq];omega,nZ,rH hi,bS,Je,bS,CO (by simp;unfold lim;omega),bS,wS (by omega),take_one hi,List.map_append]
        rfl) (by
        unfold iM
        simp) N (by omega)
      simp only [List.take_zero,List.map_nil] at this
      rw [this];rfl
    · rw [show (!decide (kG r=0))=true by simp [hr],nZ,if_neg hr]
  · rw [show (!decide (eG p=0))=true by simp [he],nZ,if_neg he]
end Go.KB
namespace Go.KB
set_option linter.unusedVariables false
def JQ (a:aA):List Int:=[a.Y,a.X,a.H,a.W]
def xQ (a b:aA):Int:=uw (JQ a) (JQ b)
theorem Fa (a b:aA) (h:xQ a b=0):a=b:=by
 have:=G8 _ _ h
 unfold JQ at this
 cases a;cases b
 simp only [List.cons.injEq,and_true] at this
 obtain ⟨h1,h2,h3,h4⟩:=this
 subst h1 h2 h3 h4;rfl
theorem Fb (a b:aA):xQ a b≤0↔0≤xQ b a:=G9 _ _
theorem D7 (a b c:aA) (h1:xQ a b≤0) (h2:xQ b c≤0):xQ a c≤0:=Fe _ _ _ h1 h2
def cR (a b:aA):Option Int:=some (xQ a b)
theorem okR (l:List aA):rY cR l:=He (k:=xQ) (fun _ _ _ _=>rfl) Fb Fa D7
def og (l:List aA):List aA:=lT cR l
def orL:List Int→Int
 | []=>0
 | x :: l=>if x=0 then orL l else x
theorem LZ {N:Nat} {l:List Int} (hl:l.length<1000000) (hN:1000000≤N):pJ N l=some (orL l):=by
 have key:∀ k i M,i+k=l.length→k<M→∃ o,bQ (iw N l) M (i:Int)=some o∧Sum.elim (fun _=>(0:Int)) (fun r=>r) o=orL (l.drop i):=by
  intro k
  induction k with
  | zero =>
   intro i M hi hM
   obtain ⟨M,rfl⟩:∃ m,M=m+1:=⟨M - 1,by omega⟩
   have e:iw N l (i:Int)=some (.inr (.inl ())):=by
    unfold iw
    rw [dN,dF (by omega),qj]
   exact ⟨.inl (),by rw [bQ,e],by rw [List.drop_of_length_le (by omega)];rfl⟩
  | succ k ih =>
   intro i M hi hM
   obtain ⟨M,rfl⟩:∃ m,M=m+1:=⟨M - 1,by omega⟩
   have hlt:i<l.length:=by omega
   have e:iw N l (i:Int)=if l[i]=0 then some (.inl ((i+1:Nat):Int)) else some (.inr (.inr l[i])):=by
    unfold iw
    rw [dN,dT (by omega),nZ,rH hlt,bS,jB,wS (by omega)]
    by_cases h:l[i]=0
    ·rw [dT h,if_pos h];rfl
    ·rw [dF h,if_neg h];rfl
   rw [List.drop_eq_getElem_cons hlt]
   show ∃ o,_∧_=if l[i]=0 then orL (l.drop (i+1)) else l[i]
   by_cases h:l[i]=0
   ·rw [if_pos h] at e
    obtain ⟨o,h1,h2⟩:=ih (i+1) M (by omega) (by omega)
    exact ⟨o,by rw [bQ,e];exact h1,by rw [if_pos h];exact h2⟩
   ·rw [if_neg h] at e
    exact ⟨.inr l[i],by rw [bQ,e],by rw [if_neg h];rfl⟩
 obtain ⟨o,h1,h2⟩:=key l.length 0 N (by omega) (by omega)
 have h1:bQ (iw N l) N 0=some o:=h1
 unfold pJ
 rw [h1,bS]
 rw [List.drop_zero] at h2
 cases o with
 | inl u=>rw [← h2];rfl
 | inr r=>rw [← h2];rfl
theorem D8 {N:Nat} {a b:aA} (hN:1000000≤N):fG N a b=cR a b:=by
 unfold fG
 rw [pF,bS,pF,bS,pF,bS,pF,bS,LZ (by simp) hN,bS]
 unfold cR xQ JQ
 congr 1
 simp only [orL,uw]
 have key:∀ (x y:Int) (z:Int),(if (if x<y then (-1:Int) else if y<x then 1 else 0)=0 then z else if x<y then (-1:Int) else if y<x then 1 else 0)=if x<y then -1 else if y<x then 1 else z:=by
  intro x y z
  by_cases h1:x<y
  ·rw [if_pos h1,if_neg (by decide),if_pos h1]
  ·rw [if_neg h1]
   by_cases h2:y<x
   ·rw [if_pos h2,if_neg (by decide),if_neg h1,if_pos h2]
   ·rw [if_neg h2,if_pos rfl,if_neg h1,if_neg h2]
 rw [key,key,key,key]
theorem uy {N:Nat} {l:List aA} (hl:l.length≤1000000) (hN:1000000≤N):iY N l=some (og l):=by
 unfold iY gJ
 rw [show (fun y0 y1=>fG N y0 y1)=cR from funext fun a=>funext fun b=>D8 hN,EY (okR l) hl];rfl
end Go.KB
namespace Go.KB
set_option linter.unusedVariables false
instance:Inhabited aA:=⟨⟨0,0,0,0⟩⟩
def Gi (a b:aA):aA:=⟨min a.X b.X,min a.Y b.Y,max (a.X+a.W) (b.X+b.W) - min a.X b.X,max (a.Y+a.H) (b.Y+b.H) - min a.Y b.Y⟩
def qo (a b:aA):Bool:=decide (a.X<b.X+b.W)&&decide (b.X<a.X+a.W)&&decide (a.Y<b.Y+b.H)&&decide (b.Y<a.Y+a.H)
structure Ff (C R:Int) (r:aA):Prop where
 x:0≤r.X
 y:0≤r.Y
 w:1≤r.W
 h:1≤r.H
 xw:r.X+r.W≤C
 yh:r.Y+r.H≤R
theorem Ff.ar {C R:Int} {a b:aA} (ha:Ff C R a) (hb:Ff C R b):Ff C R (Gi a b):=by
 obtain ⟨a1,a2,a3,a4,a5,a6⟩:=ha
 obtain ⟨b1,b2,b3,b4,b5,b6⟩:=hb
 refine ⟨?_,?_,?_,?_,?_,?_⟩ <;> simp only [Gi] <;> omega
section
variable {N:Nat} {C R:Int} (hC:C≤1000) (hR:R≤1000)
include hC hR in
theorem Bv {a b:aA} (ha:Ff C R a) (hb:Ff C R b):iP N a b=some (Gi a b):=by
 obtain ⟨a1,a2,a3,a4,a5,a6⟩:=ha
 obtain ⟨b1,b2,b3,b4,b5,b6⟩:=hb
 unfold iP Gi
 rw [pO (n:=a.X+a.W) (by omega) (by omega),pO (n:=b.X+b.W) (by omega) (by omega),pO (n:=a.Y+a.H) (by omega) (by omega),pO (n:=b.Y+b.H) (by omega) (by omega),pO (by omega) (by omega),pO (by omega) (by omega)]
include hC hR in
theorem JR {a b:aA} (ha:Ff C R a) (hb:Ff C R b):lV N a b=some (qo a b):=by
 obtain ⟨a1,a2,a3,a4,a5,a6⟩:=ha
 obtain ⟨b1,b2,b3,b4,b5,b6⟩:=hb
 unfold lV qo
 rw [pO (n:=a.X+a.W) (by omega) (by omega),pO (n:=b.X+b.W) (by omega) (by omega),pO (n:=a.Y+a.H) (by omega) (by omega),pO (n:=b.Y+b.H) (by omega) (by omega)]
 simp only [dN]
end
theorem CQ (l:List aA):(og l).Pairwise (fun a b=>wV cR b a=false):=wH (okR l) l fun _ h=>h
theorem jJ (l:List aA):(og l).Perm l:=lF cR l
theorem D9 {l l':List aA} (h:l.Perm l'):og l=og l':=Bq (okR _) ((jJ l).trans h) (CQ l)
theorem yR (l:List aA):og (og l)=og l:=D9 (jJ l)
theorem wJ {S O E : Type} {n : Nat} {f : S → Option (S ⊕ (E ⊕ O))} (mk : Nat → S) (h : Nat → Option O) (e0 : E) (a M : Nat) (ha : a ≤ n) (hM : n - a < M) (hq : ∀ i, a ≤ i → i < n → f (mk i) = match h i with | some o => some (.inr (.inr o)) | none => some (.inl (mk (i + 1)))) (he : f (mk n) = some (.inr (.inl e0))) :
    bQ f M (mk a)=some (match (List.range' a (n - a)).findSome? h with | some o=>.inr o | none=>.inl e0):=by
  have key:∀ d a M,a+d=n→d<M→(∀ i,a≤i→i<n→f (mk i)=match h i with | some o=>some (.inr (.inr o)) | none=>some (.inl (mk (i+1))))→bQ f M (mk a)=some (match (List.range' a d).findSome? h with | some o=>.inr o | none=>.inl e0):=by
    intro d
    induction d with
    | zero =>
      intro a M ha hM _
      obtain ⟨M,rfl⟩:∃ m,M=m+1:=⟨M - 1,by omega⟩
      rw [show a=n by omega,bQ,he];rfl
    | succ d ih =>
      intro a M ha hM hq
      obtain ⟨M,rfl⟩:∃ m,M=m+1:=⟨M - 1,by omega⟩
      have e:=hq a (Nat.le_refl _) (by omega)
      rw [List.range'_succ,List.findSome?_cons,bQ,e]
      cases hh:h a with
      | some o=>rfl
      | none=>exact ih (a+1) M (by omega) (by omega) fun i h1 h2=>hq i (by omega) h2
  exact key (n - a) a M (by omega) (by omega) hq
theorem uz {S O:Type} {n N:Nat} {f:S→Option (S ⊕ O)} (g:Nat→S) (r:O) (h:∀ i:Nat,i<n→f (g i)=some (.inl (g (i+1)))) (he:f (g n)=some (.inr r)) (hN:n<N):bQ f N (g 0)=some r:=by
 have key:∀ k i,i+k=n→∀ M,k<M→bQ f M (g i)=some r:=by
  intro k
  induction k with
  | zero =>
   intro i hi M hM
   obtain ⟨M,rfl⟩:∃ m,M=m+1:=⟨M - 1,by omega⟩
   have:i=n:=by omega
   subst this
   simp only [bQ,he]
  | succ k ih =>
   intro i hi M hM
   obtain ⟨M,rfl⟩:∃ m,M=m+1:=⟨M - 1,by omega⟩
   simp only [bQ,h i (by omega)]
   exact ih (i+1) (by omega) M (by omega)
 exact key n 0 (by omega) N (by omega)
theorem Aj {S O α T:Type} {N:Nat} {f:S→Option (S ⊕ O)} (l:List α) (t0:T) (stp:T→α→T) (mk:T→Int→S) (out:T→O) (hf:∀ (i:Nat) (hi:i<l.length) (t:T),t=(l.take i).foldl stp t0→f (mk t (i:Int))=some (.inl (mk (stp t l[i]) ((i+1:Nat):Int)))) (he:∀ t,f (mk t (l.length:Int))=some (.inr (out t))) (hN:l.length<N):bQ f N (mk t0 0)=some (out (l.foldl stp t0)):=by
 refine uz (n:=l.length) (fun i=>mk ((l.take i).foldl stp t0) (i:Int)) _ (fun i hi=>?_) ?_ hN
 ·rw [hf i hi _ rfl,List.take_succ_eq_append_getElem hi,List.foldl_append];rfl
 ·rw [List.take_length];exact he _
end Go.KB
namespace Go.KB
set_option linter.unusedVariables false
theorem Fg {N:Nat} {l:List aA} {i:Nat} (hi:i<l.length) (hl:l.length<1000000):dD N l (i:Int) ((i+1:Nat):Int)=some (l.take i ++ l.drop (i+1)):=by
 unfold dD
 have e1:Gy (i:Int) ((i+1:Nat):Int) (l.length:Int) (l.length:Int)=some ():=by
  unfold Gy
  rw [dT (by omega),dT (by omega),dT (by omega),dT (by omega)];rfl
 have e2:∀ a b:Int,0≤a→a≤b→b≤l.length→∃ z,ER l a b=some z:=fun a b h0 h1 h2=>by
  unfold ER
  rw [dT h0,dT h1,dT h2];exact ⟨_,rfl⟩
 obtain ⟨z1,hz1⟩:=e2 0 (i:Int) (by omega) (by omega) (by omega)
 obtain ⟨z2,hz2⟩:=e2 ((i+1:Nat):Int) (l.length:Int) (by omega) (by omega) (by omega)
 have e3:GH l (Int.toNat 0) (Int.toNat (i:Int) - Int.toNat 0) (Int.toNat ((i+1:Nat):Int)) (Int.toNat (l.length:Int) - Int.toNat ((i+1:Nat):Int))=some (l.take i ++ l.drop (i+1)):=by
  have h1:(Nat.beq (Int.toNat 0) 0&&Nat.ble (Int.toNat (i:Int) - Int.toNat 0) (Int.toNat ((i+1:Nat):Int))&&Nat.beq (Int.toNat ((i+1:Nat):Int)+(Int.toNat (l.length:Int) - Int.toNat ((i+1:Nat):Int))) l.length)=true:=by
   simp only [Bool.and_eq_true,Nat.beq_eq,Nat.ble_eq]
   refine ⟨⟨rfl,?_⟩,?_⟩
   ·simp
   ·simp only [Int.toNat_natCast]
    exact Nat.add_sub_cancel' (by omega)
  unfold GH
  rw [h1];simp
 have hlen:(l.take i ++ l.drop (i+1)).length≤l.length:=by simp;omega
 rw [e1,bS,pq,dF (by omega),qj,hz1,bS,hz2,bS,e3,bS]
 generalize l.take i ++ l.drop (i+1)=v at hlen
 have h5:(Nat.beq (Int.toNat (v.length:Int)) v.length&&Nat.ble (Int.toNat (v.length:Int)) (Int.toNat (l.length:Int))&&Nat.ble (Int.toNat (l.length:Int)) l.length&&decide (0≤(v.length:Int))&&decide (0≤(l.length:Int)))=true:=by
  simp only [Bool.and_eq_true,Nat.beq_eq,Nat.ble_eq,decide_eq_true_eq,Int.toNat_natCast]
  exact ⟨⟨⟨⟨trivial,hlen⟩,Nat.le_refl _⟩,by omega⟩,by omega⟩
 rw [h5];rfl
def jX (l:List aA) (i j:Nat):List aA:=(l.set i (Gi l[i]! l[j]!)).take j ++ (l.set i (Gi l[i]! l[j]!)).drop (j+1)
def others (l:List aA) (i j:Nat):List aA:=((List.range l.length).filter fun k=>!decide (k=i) && !decide (k=j)).map fun k=>l[k]!
theorem Ak {α:Type} [Inhabited α] (l:List α):(List.range l.length).map (fun k=>l[k]!)=l:=by
 refine List.ext_getElem (by simp) fun i h1 h2=>?_
 rw [List.getElem_map,List.getElem_range,oO h2]
theorem Hf {l:List aA} {i j:Nat} (hij:i<j) (hj:j<l.length):(jX l i j).Perm (others l i j ++ [Gi l[i]! l[j]!]):=by
 have h1:∀ z,((l.set i z).take j ++ (l.set i z).drop (j+1)).Perm (((List.range l.length).filter fun k=>!decide (k=i) && !decide (k=j)).map (fun k=>l[k]!) ++ [z]):=by
  intro z
  have hs:∀ k,k<l.length→(l.set i z)[k]! = if k=i then z else l[k]!:=fun k hk=>by
   rw [oO (by rw [List.length_set];exact hk),List.getElem_set]
   by_cases h:i=k
   ·rw [if_pos h,if_pos h.symm]
   ·rw [if_neg h,if_neg (fun q=>h q.symm),oO hk]
  have e:(l.set i z).take j ++ (l.set i z).drop (j+1)=((List.range l.length).filter fun k=>!decide (k=j)).map fun k=>(l.set i z)[k]!:=by
   have e1:=Ak (l.set i z)
   rw [List.length_set] at e1
   have e2:List.range l.length=List.range j ++ (j :: (List.range (l.length - (j+1))).map fun k=>j+1+k):=by
    have:l.length=j+(1+(l.length - (j+1))):=by omega
    conv=>lhs;rw [this]
    rw [List.range_add,List.range_add]
    simp [Nat.add_assoc]
   rw [e2,List.filter_append,List.filter_cons,show (!decide (j=j))=false by simp,if_neg (by decide),List.filter_eq_self.2 (fun k hk=>by have:=List.mem_range.1 hk;simp;omega),List.filter_eq_self.2 (fun k hk=>by obtain ⟨m,_,rfl⟩:=List.mem_map.1 hk;simp;omega),List.map_append]
   rw [e2] at e1
   rw [List.map_append,List.map_cons] at e1
   have hl1:((List.range j).map fun k=>(l.set i z)[k]!).length=j:=by simp
   conv=>lhs;rw [← e1]
   rw [List.take_append_of_le_length (by omega),List.take_of_length_le (by omega),List.drop_append,List.drop_of_length_le (by omega),List.nil_append,hl1,show j+1 - j=1 by omega]
   rfl
  rw [e]
  have e3:((List.range l.length).filter fun k=>!decide (k=j)).Perm (((List.range l.length).filter fun k=>!decide (k=i) && !decide (k=j)) ++ [i]):=by
   refine (List.perm_ext_iff_of_nodup (List.nodup_range.filter _) (List.nodup_append.2 ⟨List.nodup_range.filter _,by simp,fun a ha b hb hab=>?_⟩)).2 fun a=>?_
   ·rw [List.mem_singleton] at hb
    subst hb;subst hab
    have:=(List.mem_filter.1 ha).2
    simp at this
   ·rw [List.mem_append,List.mem_filter,List.mem_filter,List.mem_singleton,List.mem_range]
    simp only [Bool.and_eq_true,Bool.not_eq_true',decide_eq_false_iff_not]
    constructor
    ·rintro ⟨q1,q2⟩
     by_cases h:a=i
     ·exact .inr h
     ·exact .inl ⟨q1,h,q2⟩
    ·rintro (⟨q1,q2,q3⟩ | q)
     ·exact ⟨q1,q3⟩
     ·subst q;exact ⟨by omega,by omega⟩
  have e4:=e3.map fun k=>(l.set i z)[k]!
  refine e4.trans ?_
  rw [List.map_append,List.map_singleton,hs i (by omega),if_pos rfl]
  have e5:(((List.range l.length).filter fun k=>!decide (k=i) && !decide (k=j)).map fun k=>(l.set i z)[k]!)=((List.range l.length).filter fun k=>!decide (k=i) && !decide (k=j)).map fun k=>l[k]!:=by
   refine List.map_congr_left fun k hk=>?_
   obtain ⟨q1,q2⟩:=List.mem_filter.1 hk
   simp only [Bool.and_eq_true,Bool.not_eq_true',decide_eq_false_iff_not] at q2
   rw [hs k (List.mem_range.1 q1),if_neg q2.1]
  rw [e5]
 exact h1 _
def pG (l:List aA) (G:Nat→Nat→List aA):Option (List aA×Bool):=(List.range' 0 (l.length - 0)).findSome? fun i=>(List.range' (i+1) (l.length - (i+1))).findSome? fun j=>bif qo l[i]! l[j]! then some (G i j,true) else none
section
variable {N:Nat} {C R:Int} (hC:C≤1000) (hR:R≤1000) (hN:1000000≤N) {l:List aA} (hl:l.length<100000) (hb:∀ r ∈ l,Ff C R r)
include hC hR hN hl hb in
theorem Bz:kJ N l=some (match pG l (jX l) with | some o=>o | none=>(l,false)):=by
  have hbi:∀ i,i<l.length→Ff C R l[i]!:=fun i hi=>hb _ (by rw [oO hi];exact List.getElem_mem _)
  unfold kJ
  have key:=wJ (n:=l.length) (f:=gU N l) (fun i=>(l,(i:Int))) (fun i=>(List.range' (i+1) (l.length - (i+1))).findSome? fun j=>bif qo l[i]! l[j]! then some (jX l i j,true) else none) l 0 N (by omega) (by omega) (fun i _ hi=>?_) ?_
  · have key:bQ (gU N l) N (l,0)=_:=key
    rw [key,bS]
    unfold pG
    cases (List.range' 0 (l.length - 0)).findSome? (fun i=>(List.range' (i+1) (l.length - (i+1))).findSome? fun j=>bif qo l[i]! l[j]! then some (jX l i j,true) else none) with
    | some o=>rfl
    | none=>rfl
  · have inner := wJ (n := l.length) (f := iG N (l, (i : Int))) (fun j => (l, (j : Int))) (fun j => bif qo l[i]! l[j]! then some (jX l i j, true) else none) l (i + 1) N (by omega) (by omega) (fun j h1 h2 => ?_) ?_
    · unfold gU
      simp only []
      rw [dN,dT (by omega),nZ,wS (by omega),inner,bS]
      cases (List.range' (i+1) (l.length - (i+1))).findSome? fun j=>bif qo l[i]! l[j]! then some (jX l i j,true) else none with
      | some o=>rfl
      | none=>rfl
    · unfold iG
      simp only []
      rw [dN,dT (by omega),nZ,wB hi,bS,wB h2,bS,JR hC hR (hbi i hi) (hbi j h2),bS]
      cases qo l[i]! l[j]! with
      | false=>simp only [qj];rw [wS (by omega)]
      | true =>
        simp only [nZ]
        rw [bS,bS,Bv hC hR (hbi i hi) (hbi j h2),bS,bS,Int.toNat_natCast,wS (by omega),Fg (by rw [List.length_set];exact h2) (by rw [List.length_set];omega),bS];rfl
    · unfold iG
      simp only []
      rw [dN,dF (by omega),qj]
  · unfold gU
    simp only []
    rw [dN,dF (by omega),qj]
end
theorem yS {l:List aA} {G:Nat→Nat→List aA} {o:List aA×Bool} (h:pG l G=some o):∃ i j,i<j∧j<l.length∧qo l[i]! l[j]! = true∧o=(G i j,true):=by
 unfold pG at h
 obtain ⟨i,hi,h⟩:=List.exists_of_findSome?_eq_some h
 obtain ⟨j,hj,h⟩:=List.exists_of_findSome?_eq_some h
 have hi:i<l.length:=by have:=List.mem_range'.1 hi;omega
 obtain ⟨q,hq,rfl⟩:=List.mem_range'.1 hj
 cases hm:qo l[i]! l[i+1+1 * q]! with
 | false=>rw [hm] at h;cases h
 | true=>rw [hm] at h;exact ⟨i,_,by omega,by omega,hm,(Option.some.inj h).symm⟩
theorem Ea {l:List aA} {G:Nat→Nat→List aA} (h:pG l G=none) {i j:Nat} (hij:i<j) (hj:j<l.length):qo l[i]! l[j]! = false:=by
 unfold pG at h
 have h1:=List.findSome?_eq_none_iff.1 h i (List.mem_range'.2 ⟨i,by omega,by omega⟩)
 have h2:=List.findSome?_eq_none_iff.1 h1 j (List.mem_range'.2 ⟨j - (i+1),by omega,by omega⟩)
 cases hm:qo l[i]! l[j]! with
 | false=>rfl
 | true=>rw [hm] at h2;cases h2
end Go.KB
namespace Go.KB
set_option linter.unusedVariables false
def ci (l:List Nat):List Int:=l.map fun (i:Nat)=>(i:Int)
theorem Fh (l:List Nat):(ci l).length=l.length:=by unfold ci;rw [List.length_map]
def uN (C R c:Nat) (d:Int×Int):Option Nat :=
 if ((c % C:Nat):Int)+d.1<0∨(C:Int)≤((c % C:Nat):Int)+d.1∨((c / C:Nat):Int)+d.2<0∨(R:Int)≤((c / C:Nat):Int)+d.2 then none
 else some ((((c / C:Nat):Int)+d.2) * (C:Int)+(((c % C:Nat):Int)+d.1)).toNat
def CS:List (Int×Int):=[(1,0),(-1,0),(0,1),(0,-1)]
def visit (g:List Int) (s:List Bool×List Nat) (o:Option Nat):List Bool×List Nat :=
 match o with
 | none=>s
 | some d=>bif decide (g[d]! = 3) && !s.1[d]! then (s.1.set d true,s.2 ++ [d]) else s
def mQ (g:List Int) (C R c:Nat) (s:List Bool×List Nat):List Bool×List Nat:=CS.foldl (fun s d=>visit g s (uN C R c d)) s
structure BS where
 seen:List Bool
 q:List Nat
 l:Nat
 r:Nat
 t:Nat
 w:Nat
def nT (g:List Int) (C R:Nat) (s:BS) (c:Nat) (q:List Nat):BS :=
 ⟨(mQ g C R c (s.seen,q)).1,(mQ g C R c (s.seen,q)).2,min s.l (c % C),max s.r (c % C),min s.t (c / C),max s.w (c / C)⟩
def CY (g:List Int) (C R:Nat):Nat→BS→BS
 | 0,s=>s
 | k+1,s=>match s.q with
  | []=>s
  | c :: q=>CY g C R k (nT g C R s c q)
def bx (s:BS):aA:=⟨(s.l:Int),(s.t:Int),(s.r:Int) - s.l+1,(s.w:Int) - s.t+1⟩
def meas (s:BS):Nat:=s.seen.count false+s.q.length
structure A7 (g:List Int) (C R:Nat) (s:BS):Prop where
 len:s.seen.length=R * C
 q:∀ d ∈ s.q,d<R * C∧g[d]! = 3
 lr:s.l≤s.r∧s.r<C
 tw:s.t≤s.w∧s.w<R
theorem Fj {C R c:Nat} {d:Int×Int} {e:Nat} (h:uN C R c d=some e):e<R * C∧(e:Int)=(((c / C:Nat):Int)+d.2) * (C:Int)+(((c % C:Nat):Int)+d.1):=by
 unfold uN at h
 split at h
 ·cases h
 rename_i hn
 have he:=Option.some.inj h
 have hy:0≤((c / C:Nat):Int)+d.2:=by omega
 have hx:0≤((c % C:Nat):Int)+d.1:=by omega
 have hm:0≤(((c / C:Nat):Int)+d.2) * (C:Int):=Int.mul_nonneg hy (by omega)
 have hE:(e:Int)=(((c / C:Nat):Int)+d.2) * (C:Int)+(((c % C:Nat):Int)+d.1):=by rw [← he,Int.toNat_of_nonneg (by omega)]
 refine ⟨?_,hE⟩
 have h1:(((c / C:Nat):Int)+d.2) * (C:Int)≤((R:Int) - 1) * (C:Int):=Int.mul_le_mul_of_nonneg_right (by omega) (by omega)
 have h2:((R:Int) - 1) * (C:Int)=(R:Int) * C - C:=by rw [Int.sub_mul,Int.one_mul]
 have:((R * C:Nat):Int)=(R:Int) * C:=Int.natCast_mul _ _
 omega
theorem Hg (g:List Int) (seen:List Bool) (a q:List Nat) (o:Option Nat):visit g (seen,a ++ q) o=((visit g (seen,q) o).1,a ++ (visit g (seen,q) o).2):=by
 unfold visit
 cases o with
 | none=>rfl
 | some d=>simp only [];cases decide (g[d]! = 3) && !seen[d]! <;> simp
theorem Fp (g:List Int) (C R c:Nat) (a:List Nat):∀ (ds:List (Int×Int)) (seen:List Bool) (q:List Nat),ds.foldl (fun s d=>visit g s (uN C R c d)) (seen,a ++ q)=((ds.foldl (fun s d=>visit g s (uN C R c d)) (seen,q)).1,a ++ (ds.foldl (fun s d=>visit g s (uN C R c d)) (seen,q)).2):=by
 intro ds
 induction ds with
 | nil=>intro seen q;rfl
 | cons d ds ih =>
  intro seen q
  rw [List.foldl_cons,List.foldl_cons,Hg]
  exact ih _ _
theorem vT {g:List Int} {s:List Bool×List Nat} {o:Option Nat}:(visit g s o).1.length=s.1.length:=by
 unfold visit
 cases o with
 | none=>rfl
 | some d=>simp only [];cases decide (g[d]! = 3) && !s.1[d]! <;> simp
theorem Fq {g:List Int} {s:List Bool×List Nat} {o:Option Nat} (ho:∀ d,o=some d→d<s.1.length):(visit g s o).1.count false+(visit g s o).2.length=s.1.count false+s.2.length:=by
 unfold visit
 cases o with
 | none=>rfl
 | some d =>
  simp only []
  have hd:=ho d rfl
  cases hb:decide (g[d]! = 3) && !s.1[d]! with
  | false=>rfl
  | true =>
   rw [nZ]
   simp only [Bool.and_eq_true,Bool.not_eq_true'] at hb
   have h2:s.1[d]=false:=by rw [← oO hd];exact hb.2
   have h3:0<s.1.count false:=List.count_pos_iff.2 (by rw [← h2];exact List.getElem_mem _)
   rw [List.count_set hd,h2,List.length_append,List.length_singleton]
   simp
   omega
theorem JS {g:List Int} {s:List Bool×List Nat} {o:Option Nat} {n:Nat} (ho:∀ d,o=some d→d<n) (hq:∀ d ∈ s.2,d<n∧g[d]! = 3):∀ d ∈ (visit g s o).2,d<n∧g[d]! = 3:=by
 unfold visit
 cases o with
 | none=>exact hq
 | some e =>
  simp only []
  cases hb:decide (g[e]! = 3) && !s.1[e]! with
  | false=>exact hq
  | true =>
   rw [nZ]
   intro d hd
   simp only [Bool.and_eq_true,decide_eq_true_eq] at hb
   rcases List.mem_append.1 hd with h | h
   ·exact hq d h
   ·rw [List.mem_singleton.1 h];exact ⟨ho e rfl,hb.1⟩
theorem Fv {g:List Int} {C R c:Nat}:∀ (ds:List (Int×Int)) (s:List Bool×List Nat),s.1.length=R * C→(∀ d ∈ s.2,d<R * C∧g[d]! = 3) →
  (ds.foldl (fun s d=>visit g s (uN C R c d)) s).1.length=R * C∧(∀ d ∈ (ds.foldl (fun s d=>visit g s (uN C R c d)) s).2,d<R * C∧g[d]! = 3)∧(ds.foldl (fun s d=>visit g s (uN C R c d)) s).1.count false+(ds.foldl (fun s d=>visit g s (uN C R c d)) s).2.length=s.1.count false+s.2.length:=by
 intro ds
 induction ds with
 | nil=>intro s h1 h2;exact ⟨h1,h2,rfl⟩
 | cons d ds ih =>
  intro s h1 h2
  have hn:∀ e,uN C R c d=some e→e<R * C:=fun e he=>(Fj he).1
  obtain ⟨a1,a2,a3⟩:=ih (visit g s (uN C R c d)) (by rw [vT];exact h1) (JS hn h2)
  exact ⟨a1,a2,by rw [List.foldl_cons,a3,Fq (fun e he=>by rw [h1];exact hn e he)]⟩
theorem A7.step {g:List Int} {C R:Nat} {s:BS} (h:A7 g C R s) (hC:0<C) {c:Nat} {q:List Nat} (hq:s.q=c :: q):A7 g C R (nT g C R s c q)∧meas (nT g C R s c q)+1=meas s:=by
 have hc:=h.q c (by rw [hq];exact List.mem_cons_self)
 obtain ⟨a1,a2,a3⟩:=Fv (g:=g) (C:=C) (R:=R) (c:=c) CS (s.seen,q) h.len (fun d hd=>h.q d (by rw [hq];exact List.mem_cons_of_mem _ hd))
 have h1:c % C<C:=Nat.mod_lt _ hC
 have h2:c / C<R:=Nat.div_lt_of_lt_mul (by rw [Nat.mul_comm];exact hc.1)
 have hl:=h.lr
 have ht:=h.tw
 refine ⟨⟨a1,a2,?_,?_⟩,?_⟩
 ·show min s.l (c % C)≤max s.r (c % C)∧max s.r (c % C)<C
  omega
 ·show min s.t (c / C)≤max s.w (c / C)∧max s.w (c / C)<R
  omega
 ·unfold meas
  rw [hq,List.length_cons]
  show (mQ g C R c (s.seen,q)).1.count false+(mQ g C R c (s.seen,q)).2.length+1=_
  unfold mQ
  rw [a3];rfl
theorem JU {g:List Int} {C R:Nat} (hC:0<C):∀ (k:Nat) (s:BS),A7 g C R s→meas s≤k→A7 g C R (CY g C R k s)∧(CY g C R k s).q=[]:=by
 intro k
 induction k with
 | zero =>
  intro s h hk
  refine ⟨h,?_⟩
  unfold meas at hk
  exact List.length_eq_zero_iff.1 (by show s.q.length=0;omega)
 | succ k ih =>
  intro s h hk
  show A7 g C R (match s.q with | []=>s | c :: q=>CY g C R k (nT g C R s c q))∧(match s.q with | []=>s | c :: q=>CY g C R k (nT g C R s c q)).q=[]
  cases hq:s.q with
  | nil=>exact ⟨h,hq⟩
  | cons c q =>
   obtain ⟨h1,h2⟩:=h.step hC hq
   exact ih _ h1 (by omega)
theorem A7.bx {g:List Int} {C R:Nat} {s:BS} (h:A7 g C R s):Ff (C:Int) (R:Int) (bx s):=by
 have h1:=h.lr
 have h2:=h.tw
 refine ⟨?_,?_,?_,?_,?_,?_⟩ <;> simp only [Go.KB.bx] <;> omega
section
variable {N:Nat} {p:GPanel} {g:List Int} {C R:Nat} (hC:0<C) (Eh:C≤400) (Hy:R≤400) (hN:1000000≤N) (hpc:p.dX=(C:Int)) (hpr:p.Rows=(R:Int)) (hg:g.length=R * C) (hn:R * C≤400)
include Eh hpc hpr hg hn in
theorem Jg {c:Nat} (hc:c<R * C) {seen:List Bool} (hs:seen.length=R * C) {q:List Nat} (hq:q.length≤5000) {i:Nat} {dx dy:Int} (hd:-1≤dx∧dx≤1 ∧ -1≤dy∧dy≤1) (hi:i<4) (hidx:idx [[(1:Int),0],[(-1),0],[0,1],[0,(-1)]] (i:Int)=some [dx,dy]) :
  dV N p g ((c % C:Nat):Int) ((c / C:Nat):Int) (seen,ci q,(i:Int))=some (.inl ((visit g (seen,q) (uN C R c (dx,dy))).1,ci (visit g (seen,q) (uN C R c (dx,dy))).2,((i+1:Nat):Int))):=by
 have hlim:lim ≥ 10000000:=by decide
 have hx0:(0:Int)≤((c % C:Nat):Int):=Int.natCast_nonneg _
 have hy0:(0:Int)≤((c / C:Nat):Int):=Int.natCast_nonneg _
 have hxb:((c % C:Nat):Int)≤160000:=by have:=Nat.mod_le c C;omega
 have hyb:((c / C:Nat):Int)≤160000:=by have:=Nat.div_le_self c C;omega
 unfold dV
 simp only []
 rw [dN,dT (by omega),nZ,hidx,bS,show idx [dx,dy] 0=some dx from rfl,bS,show idx [dx,dy] 1=some dy from rfl,bS,pO (n:=((c % C:Nat):Int)+dx) (by omega) (by omega),pO (n:=((c / C:Nat):Int)+dy) (by omega) (by omega),dN,pz,dN,pz,hpc,hpr,wS (n:=i) (by omega)]
 cases hb:uN C R c (dx,dy) with
 | none =>
  have:(decide (((c % C:Nat):Int)+dx<0)||decide ((C:Int)≤((c % C:Nat):Int)+dx)||decide (((c / C:Nat):Int)+dy<0)||decide ((R:Int)≤((c / C:Nat):Int)+dy))=true:=by
   unfold uN at hb
   split at hb
   ·rename_i h;simp only [Bool.or_eq_true,decide_eq_true_eq];simp only [] at h;omega
   ·cases hb
  rw [this,nZ];rfl
 | some e =>
  obtain ⟨h1,h2⟩:=Fj hb
  simp only [] at h2
  have:(decide (((c % C:Nat):Int)+dx<0)||decide ((C:Int)≤((c % C:Nat):Int)+dx)||decide (((c / C:Nat):Int)+dy<0)||decide ((R:Int)≤((c / C:Nat):Int)+dy))=false:=by
   unfold uN at hb
   split at hb
   ·cases hb
   ·rename_i h
    simp only [] at h
    simp only [Bool.or_eq_false_iff,decide_eq_false_iff_not];omega
  have hm:0≤(((c / C:Nat):Int)+dy) * (C:Int)∧(((c / C:Nat):Int)+dy) * (C:Int)≤1000000:=by
   simp only [Bool.or_eq_false_iff,decide_eq_false_iff_not] at this
   exact ⟨Int.mul_nonneg (by omega) (by omega),by omega⟩
  have he:IntKind.i64.wrap (IntKind.i64.wrap ((((c / C:Nat):Int)+dy) * (C:Int))+(((c % C:Nat):Int)+dx))=(e:Int):=by
   rw [pO (n:=(((c / C:Nat):Int)+dy) * (C:Int)) (by omega) (by omega),← h2,pO (by omega) (by omega)]
  rw [this,qj,he,wB (by omega),bS,pq]
  unfold visit
  simp only []
  cases h3:decide (g[e]! = 3) with
  | false=>rfl
  | true =>
   rw [nZ,wB (by omega),bS,Bool.true_and]
   cases h4:seen[e]! with
   | true=>rfl
   | false =>
    simp only [Bool.not_false,nZ]
    rw [bS,CO (by rw [Fh];simp only [List.length_singleton];omega),bS,Int.toNat_natCast]
    unfold ci
    rw [List.map_append];rfl
include Eh hpc hpr hg hn hN in
theorem Eb {c:Nat} (hc:c<R * C) {seen:List Bool} (hs:seen.length=R * C) {q:List Nat} (hq:q.length≤4000) :
  bQ (dV N p g ((c % C:Nat):Int) ((c / C:Nat):Int)) N (seen,ci q,0)=some ((mQ g C R c (seen,q)).1,ci (mQ g C R c (seen,q)).2):=by
 have hlen:∀ (ds:List (Int×Int)) (s:List Bool×List Nat),(ds.foldl (fun s d=>visit g s (uN C R c d)) s).1.length=s.1.length∧(ds.foldl (fun s d=>visit g s (uN C R c d)) s).2.length≤s.2.length+ds.length:=by
  intro ds
  induction ds with
  | nil=>intro s;exact ⟨rfl,Nat.le_refl _⟩
  | cons d ds ih =>
   intro s
   obtain ⟨a1,a2⟩:=ih (visit g s (uN C R c d))
   have:(visit g s (uN C R c d)).2.length≤s.2.length+1:=by
    unfold visit
    cases uN C R c d with
    | none=>simp only [];omega
    | some e=>simp only [];cases decide (g[e]! = 3) && !s.1[e]! <;> simp
   refine ⟨by rw [List.foldl_cons,a1,vT],?_⟩
   rw [List.foldl_cons,List.length_cons];omega
 refine Aj (N:=N) (f:=dV N p g ((c % C:Nat):Int) ((c / C:Nat):Int)) CS (seen,q) (fun s d=>visit g s (uN C R c d)) (fun t i=>(t.1,ci t.2,i)) (fun t=>(t.1,ci t.2)) (fun i hi t ht=>?_) (fun t=>?_) (by show 4<N;omega)
 ·have h4:i<4:=hi
  obtain ⟨b1,b2⟩:=hlen (CS.take i) (seen,q)
  rw [← ht] at b1 b2
  have b3:(CS.take i).length≤4:=by rw [List.length_take];show min i 4≤4;omega
  have key:∀ dx dy,-1≤dx∧dx≤1 ∧ -1≤dy∧dy≤1→idx [[(1:Int),0],[(-1),0],[0,1],[0,(-1)]] (i:Int)=some [dx,dy]→dV N p g ((c % C:Nat):Int) ((c / C:Nat):Int) (t.1,ci t.2,(i:Int))=some (.inl ((visit g t (uN C R c (dx,dy))).1,ci (visit g t (uN C R c (dx,dy))).2,((i+1:Nat):Int))):=fun dx dy hd hx =>
   Jg Eh hpc hpr hg hn hc (seen:=t.1) (q:=t.2) (by rw [b1];exact hs) (by simp only [] at b2;omega) hd h4 hx
  match i,hi,key with
  | 0,_,key=>exact key 1 0 (by decide) rfl
  | 1,_,key=>exact key (-1) 0 (by decide) rfl
  | 2,_,key=>exact key 0 1 (by decide) rfl
  | 3,_,key=>exact key 0 (-1) (by decide) rfl
  | i+4,hi,_=>exact absurd hi (by show ¬ i+4<4;omega)
 ·unfold dV
  simp only []
  rw [dN,show ((CS.length:Int))=4 from rfl,dF (by decide),qj]
theorem zx {a b:Nat} (hb:0<b):Ac (a:Int) (b:Int)=some ((a % b:Nat):Int):=by
 unfold Ac
 rw [if_neg (by omega),Int.ofNat_tmod]
theorem CU {a b:Nat} (hb:0<b) (ha:a<1000000):Ci .i64 (a:Int) (b:Int)=some ((a / b:Nat):Int):=by
 unfold Ci
 rw [if_neg (by omega),show (a:Int).tdiv (b:Int)=((a / b:Nat):Int) from rfl,pO (by have:=Int.natCast_nonneg (a / b);omega) (by have:=Nat.div_le_self a b;omega)]
include hC Eh Hy hpc hpr hg hn hN in
theorem Jh:∀ (k:Nat) (s:BS),A7 g C R s→meas s≤k→k≤3000→∀ M,k<M→bQ (dA N p g) M (s.seen,bx s,ci s.q)=some ((CY g C R k s).seen,bx (CY g C R k s)):=by
 intro k
 induction k with
 | zero =>
  intro s h hk _ M hM
  obtain ⟨M,rfl⟩:∃ m,M=m+1:=⟨M - 1,by omega⟩
  have hq:s.q=[]:=List.length_eq_zero_iff.1 (by unfold meas at hk;omega)
  have e:dA N p g (s.seen,bx s,ci s.q)=some (.inr (s.seen,bx s)):=by
   unfold dA
   simp only []
   rw [hq];rfl
  rw [bQ,e];rfl
 | succ k ih =>
  intro s h hk hk3 M hM
  obtain ⟨M,rfl⟩:∃ m,M=m+1:=⟨M - 1,by omega⟩
  show _=some ((match s.q with | []=>s | c :: q=>CY g C R k (nT g C R s c q)).seen,bx (match s.q with | []=>s | c :: q=>CY g C R k (nT g C R s c q)))
  cases hq:s.q with
  | nil =>
   have e:dA N p g (s.seen,bx s,ci [])=some (.inr (s.seen,bx s)):=by
    unfold dA
    rfl
   rw [bQ,e]
  | cons c q =>
   obtain ⟨h1,h2⟩:=h.step hC hq
   have hc:=h.q c (by rw [hq];exact List.mem_cons_self)
   have hql:(c :: q).length≤3001:=by rw [← hq];unfold meas at hk;omega
   have hmod:c % C<C:=Nat.mod_lt _ hC
   have hdiv:c / C<R:=Nat.div_lt_of_lt_mul (by rw [Nat.mul_comm];exact hc.1)
   have hv:=Eb (N:=N) (p:=p) Eh hN hpc hpr hg hn hc.1 (seen:=s.seen) (q:=c :: q) h.len (by omega)
   have hva:mQ g C R c (s.seen,c :: q)=((mQ g C R c (s.seen,q)).1,c :: (mQ g C R c (s.seen,q)).2):=Fp g C R c [c] CS s.seen q
   have har:iP N (bx s) (⟨((c % C:Nat):Int),((c / C:Nat):Int),1,1⟩:aA)=some (bx (nT g C R s c q)):=by
    rw [Bv (C:=C) (R:=R) (by omega) (by omega) h.bx ⟨Int.natCast_nonneg _,Int.natCast_nonneg _,by simp only [];omega,by simp only [];omega,by simp only [];omega,by simp only [];omega⟩]
    congr 1
    have q1:=h.lr
    have q2:=h.tw
    unfold Gi bx nT
    simp only [aA.mk.injEq]
    refine ⟨?_,?_,?_,?_⟩ <;> omega
   have e:dA N p g (s.seen,bx s,ci (c :: q))=some (.inl ((nT g C R s c q).seen,bx (nT g C R s c q),ci (nT g C R s c q).q)):=by
    unfold dA
    simp only []
    rw [qF,Fh,dT (by simp only [List.length_cons];omega),nZ,show idx (ci (c :: q)) 0=some (c:Int) from rfl,bS,hpc,zx hC,bS,bS,CU hC (by omega),bS,har,bS,hv,hva,bS]
    simp only []
    have hsl:ER (ci (c :: (mQ g C R c (s.seen,q)).2)) 1 ((ci (c :: (mQ g C R c (s.seen,q)).2)).length:Int)=some (ci (mQ g C R c (s.seen,q)).2):=by
     unfold ER
     rw [dT (by decide),dT (by rw [Fh];simp only [List.length_cons];omega),dT (Int.le_refl _),Int.toNat_natCast,List.take_length];rfl
    rw [hsl,bS];rfl
   rw [bQ,e]
   exact ih _ h1 (by omega) (by omega) M (by omega)
end
end Go.KB
namespace Go.KB
set_option linter.unusedVariables false
def zh (C:Nat) (r:aA) (d:Nat):Prop:=r.X≤((d % C:Nat):Int)∧((d % C:Nat):Int)<r.X+r.W∧r.Y≤((d / C:Nat):Int)∧((d / C:Nat):Int)<r.Y+r.H
structure xR (g:List Int) (C R:Nat) (z:aA):Prop where
 sl:∃ d,d<R * C∧g[d]! = 3∧zh C z d∧((d % C:Nat):Int)=z.X
 sr:∃ d,d<R * C∧g[d]! = 3∧zh C z d∧((d % C:Nat):Int)=z.X+z.W - 1
 st:∃ d,d<R * C∧g[d]! = 3∧zh C z d∧((d / C:Nat):Int)=z.Y
 sw:∃ d,d<R * C∧g[d]! = 3∧zh C z d∧((d / C:Nat):Int)=z.Y+z.H - 1
theorem su {C:Nat} {a b:aA} {d:Nat} (h:zh C a d∨zh C b d):zh C (Gi a b) d:=by
 unfold zh Gi at *
 simp only []
 omega
theorem xR.ar {g:List Int} {C R:Nat} {a b:aA} (ha:xR g C R a) (hb:xR g C R b):xR g C R (Gi a b):=by
 obtain ⟨⟨a1,p1,p2,p3,p4⟩,⟨a2,p5,p6,p7,p8⟩,⟨a3,p9,p10,p11,p12⟩,⟨a4,p13,p14,p15,p16⟩⟩:=ha
 obtain ⟨⟨b1,q1,q2,q3,q4⟩,⟨b2,q5,q6,q7,q8⟩,⟨b3,q9,q10,q11,q12⟩,⟨b4,q13,q14,q15,q16⟩⟩:=hb
 refine ⟨?_,?_,?_,?_⟩
 ·by_cases h : a.X ≤ b.X
  ·exact ⟨a1,p1,p2,su (.inl p3),by show _=min a.X b.X;omega⟩
  ·exact ⟨b1,q1,q2,su (.inr q3),by show _=min a.X b.X;omega⟩
 ·by_cases h : b.X + b.W ≤ a.X + a.W
  ·exact ⟨a2,p5,p6,su (.inl p7),by show _=min a.X b.X+(max (a.X+a.W) (b.X+b.W) - min a.X b.X) - 1;omega⟩
  ·exact ⟨b2,q5,q6,su (.inr q7),by show _=min a.X b.X+(max (a.X+a.W) (b.X+b.W) - min a.X b.X) - 1;omega⟩
 ·by_cases h : a.Y ≤ b.Y
  ·exact ⟨a3,p9,p10,su (.inl p11),by show _=min a.Y b.Y;omega⟩
  ·exact ⟨b3,q9,q10,su (.inr q11),by show _=min a.Y b.Y;omega⟩
 ·by_cases h : b.Y + b.H ≤ a.Y + a.H
  ·exact ⟨a4,p13,p14,su (.inl p15),by show _=min a.Y b.Y+(max (a.Y+a.H) (b.Y+b.H) - min a.Y b.Y) - 1;omega⟩
  ·exact ⟨b4,q13,q14,su (.inr q15),by show _=min a.Y b.Y+(max (a.Y+a.H) (b.Y+b.H) - min a.Y b.Y) - 1;omega⟩
structure Good (g:List Int) (C R:Nat) (l:List aA):Prop where
 inr:∀ r ∈ l,Ff (C:Int) (R:Int) r
 ti:∀ r ∈ l,xR g C R r
 L6:∀ d,d<R * C→g[d]! = 3→∃ r ∈ l,zh C r d
theorem Good.perm {g:List Int} {C R:Nat} {l l':List aA} (h:Good g C R l) (hp:l'.Perm l):Good g C R l' :=
 ⟨fun r hr=>h.inr r (hp.mem_iff.1 hr),fun r hr=>h.ti r (hp.mem_iff.1 hr),fun d hd hg=>by obtain ⟨r,hr,hi⟩:=h.L6 d hd hg;exact ⟨r,hp.mem_iff.2 hr,hi⟩⟩
theorem Am {l:List aA} {i j:Nat} {r:aA}:r ∈ others l i j↔∃ k,k<l.length∧k≠i∧k≠j∧l[k]! = r:=by
 unfold others
 rw [List.mem_map]
 constructor
 ·rintro ⟨k,hk,rfl⟩
  obtain ⟨h1,h2⟩:=List.mem_filter.1 hk
  simp only [Bool.and_eq_true,Bool.not_eq_true',decide_eq_false_iff_not] at h2
  exact ⟨k,List.mem_range.1 h1,h2.1,h2.2,rfl⟩
 ·rintro ⟨k,h1,h2,h3,rfl⟩
  exact ⟨k,List.mem_filter.2 ⟨List.mem_range.2 h1,by simp [h2,h3]⟩,rfl⟩
theorem Good.join {g:List Int} {C R:Nat} {l:List aA} (h:Good g C R l) {i j:Nat} (hij:i<j) (hj:j<l.length):Good g C R (jX l i j):=by
 have hi:i<l.length:=by omega
 have mi:l[i]! ∈ l:=by rw [oO hi];exact List.getElem_mem _
 have mj:l[j]! ∈ l:=by rw [oO hj];exact List.getElem_mem _
 have hm:∀ r,r ∈ others l i j ++ [Gi l[i]! l[j]!]→r ∈ l∨r=Gi l[i]! l[j]!:=fun r hr=>by
  rcases List.mem_append.1 hr with q | q
  ·obtain ⟨k,k1,_,_,rfl⟩:=Am.1 q
   exact .inl (by rw [oO k1];exact List.getElem_mem _)
  ·exact .inr (List.mem_singleton.1 q)
 have key:Good g C R (others l i j ++ [Gi l[i]! l[j]!]):=by
  refine ⟨fun r hr=>?_,fun r hr=>?_,fun d hd hg=>?_⟩
  ·rcases hm r hr with q | q
   ·exact h.inr r q
   ·rw [q];exact (h.inr _ mi).ar (h.inr _ mj)
  ·rcases hm r hr with q | q
   ·exact h.ti r q
   ·rw [q];exact (h.ti _ mi).ar (h.ti _ mj)
  ·obtain ⟨r,hr,hin⟩:=h.L6 d hd hg
   obtain ⟨k,hk,rfl⟩:=List.getElem_of_mem hr
   rw [← oO hk] at hin
   by_cases h1:k=i
   ·subst h1;exact ⟨_,List.mem_append_right _ (List.mem_singleton_self _),su (.inl hin)⟩
   ·by_cases h2 : k = j
    ·subst h2;exact ⟨_,List.mem_append_right _ (List.mem_singleton_self _),su (.inr hin)⟩
    ·exact ⟨_,List.mem_append_left _ (Am.2 ⟨k,hk,h1,h2,rfl⟩),hin⟩
 exact key.perm (Hf hij hj)
theorem Ec {l:List aA} {i j:Nat} (hij:i<j) (hj:j<l.length):(jX l i j).length+1=l.length:=by
 unfold jX
 rw [List.length_append,List.length_take,List.length_drop,List.length_set];omega
def ren:Nat→List aA→List aA
 | 0,l=>l
 | m+1,l=>match pG l (jX l) with
  | none=>l
  | some o=>ren m (og o.1)
theorem Ji {g:List Int} {C R:Nat}:∀ (m:Nat) (l:List aA),l.length≤m→Good g C R l→Good g C R (ren m l)∧(∀ i j,i<j→j<(ren m l).length→qo (ren m l)[i]! (ren m l)[j]! = false)∧(ren m l).length≤l.length:=by
 intro m
 induction m with
 | zero=>intro l hl hG;exact ⟨hG,fun i j _ h=>absurd h (by show ¬ j<l.length;omega),Nat.le_refl _⟩
 | succ m ih =>
  intro l hl hG
  unfold ren
  cases hq:pG l (jX l) with
  | none=>exact ⟨hG,fun i j h1 h2=>Ea hq h1 h2,Nat.le_refl _⟩
  | some o =>
   obtain ⟨i,j,h1,h2,_,rfl⟩:=yS hq
   have hlen:=Ec h1 h2
   have hrl:(og (jX l i j)).length=(jX l i j).length:=(jJ _).length_eq
   obtain ⟨r3,r4,r5⟩:=ih (og (jX l i j)) (by omega) ((hG.join h1 h2).perm (jJ _))
   exact ⟨r3,r4,by simp only [];omega⟩
theorem Fz {N:Nat} {g:List Int} {C R:Nat} (hC:C≤1000) (hR:R≤1000) (hN:1000000≤N):∀ (m:Nat) (l:List aA),l.length≤m→m<100000→og l=l→Good g C R l→∀ M,m+1<M→bQ (bM N) M (l,true)=some (ren m l):=by
 intro m
 induction m with
 | zero =>
  intro l hl _ hs hG M hM
  obtain ⟨M,rfl⟩:∃ m,M=m+2:=⟨M - 2,by omega⟩
  have:l=[]:=List.length_eq_zero_iff.1 (by omega)
  subst this
  have e0:pG [] (jX [])=none:=rfl
  have hj:=Bz (N:=N) (C:=C) (R:=R) (by omega) (by omega) hN (l:=[]) (by simp) (fun r hr=>by cases hr)
  rw [e0] at hj
  have f1:bM N ([],true)=some (.inl ([],false)):=by
   unfold bM
   simp only [nZ]
   rw [hj,bS,uy (by simp) hN,bS];rfl
  have f2:bM N ([],false)=some (.inr []):=rfl
  rw [bQ,f1]
  show bQ (bM N) (M+1) _=_
  rw [bQ,f2];rfl
 | succ m ih =>
  intro l hl hm hs hG M hM
  obtain ⟨M,rfl⟩:∃ m,M=m+2:=⟨M - 2,by omega⟩
  have hj:=Bz (N:=N) (C:=C) (R:=R) (by omega) (by omega) hN (l:=l) (by omega) hG.inr
  unfold ren
  cases hq:pG l (jX l) with
  | none =>
   rw [hq] at hj
   have f1:bM N (l,true)=some (.inl (l,false)):=by
    unfold bM
    simp only [nZ]
    rw [hj,bS,uy (by simp only [];omega) hN,bS]
    simp only []
    rw [hs]
   have f2:bM N (l,false)=some (.inr l):=rfl
   rw [bQ,f1]
   show bQ (bM N) (M+1) _=_
   rw [bQ,f2]
  | some o =>
   obtain ⟨i,j,h1,h2,_,rfl⟩:=yS hq
   rw [hq] at hj
   have hlen:=Ec h1 h2
   have hrl:(og (jX l i j)).length=(jX l i j).length:=(jJ _).length_eq
   have f1:bM N (l,true)=some (.inl (og (jX l i j),true)):=by
    unfold bM
    simp only [nZ]
    rw [hj,bS,uy (by simp only [];omega) hN,bS]
   rw [bQ,f1]
   exact ih (og (jX l i j)) (by omega) (by omega) (yR _) ((hG.join h1 h2).perm (jJ _)) (M+1) (by omega)
def uH (C i:Nat) (seen:List Bool):BS:=⟨seen.set i true,[i],i % C,i % C,i / C,i / C⟩
def gst (g:List Int) (C R:Nat) (t:List aA×List Bool) (i:Nat):List aA×List Bool :=
 bif decide (g[i]! = 3) && !t.2[i]! then (t.1 ++ [bx (CY g C R 3000 (uH C i t.2))],(CY g C R 3000 (uH C i t.2)).seen) else t
structure JB (g:List Int) (C R:Nat) (xU:List Bool) (s:BS):Prop where
 inv:A7 g C R s
 old:∀ d:Nat,xU[d]! = true→s.seen[d]! = true
 new:∀ d:Nat,d<R * C→s.seen[d]! = true→xU[d]! = true∨d ∈ s.q∨zh C (bx s) d
 ti:xR g C R (bx s)
theorem xW {l:List Bool} {i d:Nat} (hi:i<l.length):(l.set i true)[d]! = if d=i then true else l[d]!:=by
 by_cases h:d=i
 ·subst h;rw [if_pos rfl,oO (by rw [List.length_set];exact hi),List.getElem_set,if_pos rfl]
 ·rw [if_neg h]
  by_cases hd:d<l.length
  ·rw [oO (by rw [List.length_set];exact hd),oO hd,List.getElem_set,if_neg (fun q=>h q.symm)]
  ·simp [hd]
theorem yT {g:List Int} {C R c:Nat}:∀ (ds:List (Int×Int)) (s:List Bool×List Nat),s.1.length=R * C →
  (∀ d:Nat,s.1[d]! = true→(ds.foldl (fun s d=>visit g s (uN C R c d)) s).1[d]! = true)∧(∀ d ∈ s.2,d ∈ (ds.foldl (fun s d=>visit g s (uN C R c d)) s).2) ∧
  (∀ d:Nat,(ds.foldl (fun s d=>visit g s (uN C R c d)) s).1[d]! = true→s.1[d]! = true∨d ∈ (ds.foldl (fun s d=>visit g s (uN C R c d)) s).2):=by
 intro ds
 induction ds with
 | nil=>intro s _;exact ⟨fun _ h=>h,fun _ h=>h,fun _ h=>.inl h⟩
 | cons e ds ih =>
  intro s hl
  obtain ⟨a1,a2,a3⟩:=ih (visit g s (uN C R c e)) (by rw [vT];exact hl)
  have hv:(∀ d:Nat,s.1[d]! = true→(visit g s (uN C R c e)).1[d]! = true)∧(∀ d ∈ s.2,d ∈ (visit g s (uN C R c e)).2)∧(∀ d:Nat,(visit g s (uN C R c e)).1[d]! = true→s.1[d]! = true∨d ∈ (visit g s (uN C R c e)).2):=by
   unfold visit
   cases hn:uN C R c e with
   | none=>exact ⟨fun _ h=>h,fun _ h=>h,fun _ h=>.inl h⟩
   | some k =>
    have hk:=(Fj hn).1
    simp only []
    cases decide (g[k]! = 3) && !s.1[k]! with
    | false=>exact ⟨fun _ h=>h,fun _ h=>h,fun _ h=>.inl h⟩
    | true =>
     rw [nZ]
     refine ⟨fun d h=>?_,fun d h=>List.mem_append_left _ h,fun d h=>?_⟩
     ·show (s.1.set k true)[d]! = true
      rw [xW (by rw [hl];exact hk)];split
      ·rfl
      ·exact h
     ·have h:(s.1.set k true)[d]! = true:=h
      rw [xW (by rw [hl];exact hk)] at h
      split at h
      ·rename_i q;subst q;exact .inr (List.mem_append_right _ (List.mem_singleton_self _))
      ·exact .inl h
  obtain ⟨b1,b2,b3⟩:=hv
  refine ⟨fun d h=>a1 d (b1 d h),fun d h=>a2 d (b2 d h),fun d h=>?_⟩
  rcases a3 d h with q | q
  ·rcases b3 d q with q2 | q2
   ·exact .inl q2
   ·exact .inr (a2 d q2)
  ·exact .inr q
theorem JB.step {g:List Int} {C R:Nat} {xU:List Bool} {s:BS} (h:JB g C R xU s) (hC:0<C) {c:Nat} {q:List Nat} (hq:s.q=c :: q):JB g C R xU (nT g C R s c q):=by
 obtain ⟨h1,_⟩:=h.inv.step hC hq
 have hc:=h.inv.q c (by rw [hq];exact List.mem_cons_self)
 obtain ⟨v1,v2,v3⟩:=yT (g:=g) (C:=C) (R:=R) (c:=c) CS (s.seen,q) h.inv.len
 have hlr:=h.inv.lr
 have htw:=h.inv.tw
 have hgrow:∀ d,zh C (bx s) d→zh C (bx (nT g C R s c q)) d:=fun d hd=>by
  unfold zh bx nT at *
  simp only [] at *
  omega
 have hcin:zh C (bx (nT g C R s c q)) c:=by
  unfold zh bx nT
  simp only []
  omega
 refine ⟨h1,fun d hd=>v1 d (h.old d hd),fun d hd hs=>?_,?_⟩
 ·rcases v3 d hs with hs | hs
  ·rcases h.new d hd hs with k | k | k
   ·exact .inl k
   ·rw [hq] at k
    rcases List.mem_cons.1 k with k | k
    ·subst k;exact .inr (.inr hcin)
    ·exact .inr (.inl (v2 d k))
   ·exact .inr (.inr (hgrow d k))
  ·exact .inr (.inl hs)
 ·obtain ⟨⟨a1,p1,p2,p3,p4⟩,⟨a2,p5,p6,p7,p8⟩,⟨a3,p9,p10,p11,p12⟩,⟨a4,p13,p14,p15,p16⟩⟩:=h.ti
  have p4:((a1 % C:Nat):Int)=(s.l:Int):=p4
  have p8:((a2 % C:Nat):Int)=(s.l:Int)+((s.r:Int) - s.l+1) - 1:=p8
  have p12:((a3 / C:Nat):Int)=(s.t:Int):=p12
  have p16:((a4 / C:Nat):Int)=(s.t:Int)+((s.w:Int) - s.t+1) - 1:=p16
  refine ⟨?_,?_,?_,?_⟩
  ·by_cases k : s.l ≤ c % C
   ·exact ⟨a1,p1,p2,hgrow _ p3,by show _=((min s.l (c % C):Nat):Int);omega⟩
   ·exact ⟨c,hc.1,hc.2,hcin,by show _=((min s.l (c % C):Nat):Int);omega⟩
  ·by_cases k : c % C ≤ s.r
   ·exact ⟨a2,p5,p6,hgrow _ p7,by show _=((min s.l (c % C):Nat):Int)+(((max s.r (c % C):Nat):Int) - ((min s.l (c % C):Nat):Int)+1) - 1;omega⟩
   ·exact ⟨c,hc.1,hc.2,hcin,by show _=((min s.l (c % C):Nat):Int)+(((max s.r (c % C):Nat):Int) - ((min s.l (c % C):Nat):Int)+1) - 1;omega⟩
  ·by_cases k : s.t ≤ c / C
   ·exact ⟨a3,p9,p10,hgrow _ p11,by show _=((min s.t (c / C):Nat):Int);omega⟩
   ·exact ⟨c,hc.1,hc.2,hcin,by show _=((min s.t (c / C):Nat):Int);omega⟩
  ·by_cases k : c / C ≤ s.w
   ·exact ⟨a4,p13,p14,hgrow _ p15,by show _=((min s.t (c / C):Nat):Int)+(((max s.w (c / C):Nat):Int) - ((min s.t (c / C):Nat):Int)+1) - 1;omega⟩
   ·exact ⟨c,hc.1,hc.2,hcin,by show _=((min s.t (c / C):Nat):Int)+(((max s.w (c / C):Nat):Int) - ((min s.t (c / C):Nat):Int)+1) - 1;omega⟩
theorem bfs_J {g:List Int} {C R:Nat} {xU:List Bool} (hC:0<C):∀ (k:Nat) (s:BS),JB g C R xU s→JB g C R xU (CY g C R k s):=by
 intro k
 induction k with
 | zero=>intro s h;exact h
 | succ k ih =>
  intro s h
  show JB g C R xU (match s.q with | []=>s | c :: q=>CY g C R k (nT g C R s c q))
  cases hq:s.q with
  | nil=>exact h
  | cons c q=>exact ih _ (h.step hC hq)
structure GI (g:List Int) (C R i:Nat) (t:List aA×List Bool):Prop where
 len:t.2.length=R * C
 n:t.1.length≤i
 inr:∀ r ∈ t.1,Ff (C:Int) (R:Int) r
 ti:∀ r ∈ t.1,xR g C R r
 L6:∀ d:Nat,d<R * C→t.2[d]! = true→∃ r ∈ t.1,zh C r d
 all:∀ d:Nat,d<i→g[d]! = 3→t.2[d]! = true
theorem Jj {g:List Int} {C R i:Nat} {seen:List Bool} (hC:0<C) (hi:i<R * C) (hs:seen.length=R * C) (hg:g[i]! = 3):JB g C R seen (uH C i seen)∧meas (uH C i seen)≤R * C+1:=by
 have h1:i % C<C:=Nat.mod_lt _ hC
 have h2:i / C<R:=Nat.div_lt_of_lt_mul (by rw [Nat.mul_comm];exact hi)
 have hin:zh C (bx (uH C i seen)) i:=by
  unfold zh bx uH
  simp only []
  omega
 refine ⟨⟨⟨by show (seen.set i true).length=_;rw [List.length_set];exact hs,fun d hd=>?_,⟨Nat.le_refl _,h1⟩,⟨Nat.le_refl _,h2⟩⟩,fun d hd=>?_,fun d hd hsd=>?_,?_⟩,?_⟩
 ·have hd:d ∈ [i]:=hd
  rw [List.mem_singleton.1 hd];exact ⟨hi,hg⟩
 ·show (seen.set i true)[d]! = true
  rw [xW (by rw [hs];exact hi)];split
  ·rfl
  ·exact hd
 ·have hsd:(seen.set i true)[d]! = true:=hsd
  rw [xW (by rw [hs];exact hi)] at hsd
  split at hsd
  ·rename_i q;subst q;exact .inr (.inl (List.mem_singleton_self _))
  ·exact .inl hsd
 ·exact ⟨⟨i,hi,hg,hin,rfl⟩,⟨i,hi,hg,hin,by show ((i % C:Nat):Int)=((i % C:Nat):Int)+(((i % C:Nat):Int) - ((i % C:Nat):Int)+1) - 1;omega⟩,⟨i,hi,hg,hin,rfl⟩,⟨i,hi,hg,hin,by show ((i / C:Nat):Int)=((i / C:Nat):Int)+(((i / C:Nat):Int) - ((i / C:Nat):Int)+1) - 1;omega⟩⟩
 ·unfold meas
  show (seen.set i true).count false+1≤_
  have:=List.count_le_length (a:=false) (l:=seen.set i true)
  rw [List.length_set,hs] at this
  omega
theorem GI.step {g:List Int} {C R i:Nat} {t:List aA×List Bool} (h:GI g C R i t) (hC:0<C) (hi:i<R * C) (hn:R * C≤400):GI g C R (i+1) (gst g C R t i):=by
 unfold gst
 cases hb:decide (g[i]! = 3) && !t.2[i]! with
 | false =>
  rw [qj]
  refine ⟨h.len,Nat.le_succ_of_le h.n,h.inr,h.ti,h.L6,fun d hd hg=>?_⟩
  by_cases k:d=i
  ·subst k
   rw [hg] at hb
   simpa using hb
  ·exact h.all d (by omega) hg
 | true =>
  rw [nZ]
  simp only [Bool.and_eq_true,decide_eq_true_eq] at hb
  obtain ⟨j1,j2⟩:=Jj hC hi h.len hb.1
  have hJ:=bfs_J hC 3000 _ j1
  obtain ⟨b1,b2⟩:=JU hC 3000 _ j1.inv (by omega)
  have hnew:∀ d,d<R * C→(CY g C R 3000 (uH C i t.2)).seen[d]! = true→t.2[d]! = true∨zh C (bx (CY g C R 3000 (uH C i t.2))) d:=fun d hd hs=>by
   rcases hJ.new d hd hs with k | k | k
   ·exact .inl k
   ·rw [b2] at k;cases k
   ·exact .inr k
  refine ⟨b1.len,by show (t.1 ++ [_]).length≤_;rw [List.length_append,List.length_singleton];have:=h.n;omega,fun r hr=>?_,fun r hr=>?_,fun d hd hs=>?_,fun d hd hg=>?_⟩
  ·rcases List.mem_append.1 hr with k | k
   ·exact h.inr r k
   ·rw [List.mem_singleton.1 k];exact b1.bx
  ·rcases List.mem_append.1 hr with k | k
   ·exact h.ti r k
   ·rw [List.mem_singleton.1 k];exact hJ.ti
  ·rcases hnew d hd hs with k | k
   ·obtain ⟨r,hr,hin⟩:=h.L6 d hd k
    exact ⟨r,List.mem_append_left _ hr,hin⟩
   ·exact ⟨_,List.mem_append_right _ (List.mem_singleton_self _),k⟩
  ·show (CY g C R 3000 (uH C i t.2)).seen[d]! = true
   by_cases k:d=i
   ·subst k
    have hst:∀ (n:Nat) (s:BS),s.seen.length=R * C→s.seen[d]! = true→(CY g C R n s).seen[d]! = true:=by
     intro n
     induction n with
     | zero=>intro s _ hs;exact hs
     | succ n ih =>
      intro s hl hs
      show (match s.q with | []=>s | c :: q=>CY g C R n (nT g C R s c q)).seen[d]! = true
      cases s.q with
      | nil=>exact hs
      | cons c q =>
       have hvl:=(yT (g:=g) (C:=C) (R:=R) (c:=c) CS (s.seen,q) hl).1 d hs
       have hvn:∀ (ds:List (Int×Int)) (z:List Bool×List Nat),(ds.foldl (fun s d=>visit g s (uN C R c d)) z).1.length=z.1.length:=by
        intro ds
        induction ds with
        | nil=>intro z;rfl
        | cons e ds ihd=>intro z;rw [List.foldl_cons,ihd,vT]
       exact ih _ (by show (mQ g C R c (s.seen,q)).1.length=_;unfold mQ;rw [hvn];exact hl) hvl
    exact hst 3000 _ j1.inv.len (by show (t.2.set d true)[d]! = true;rw [xW (by rw [h.len];exact hi),if_pos rfl])
   ·exact hJ.old d (h.all d (by omega) hg)
end Go.KB
namespace Go.KB
set_option linter.unusedVariables false
theorem CG {p:GPanel} (h:eG p=0):∃ C R:Nat,0<C∧C≤400∧0<R∧R≤400∧p.dX=(C:Int)∧p.Rows=(R:Int)∧p.Readings.length=R * C∧R * C≤400:=by
 unfold eG at h
 cases h1:(!kR p.Name) with
 | true=>rw [h1] at h;cases h
 | false =>
  rw [h1,qj] at h
  cases h2:(((ai .lss p.Rows 1)||(ai .lss p.dX 1))||(!CB 100 20000 p.ig)) with
  | true=>rw [h2] at h;cases h
  | false =>
   rw [h2,qj] at h
   cases h3:(((ai .gtr p.Rows 400)||(ai .gtr p.dX 400))||(ai .gtr (IntKind.i64.wrap (p.Rows * p.dX)) 400)) with
   | true=>rw [h3] at h;cases h
   | false =>
    rw [h3,qj] at h
    cases h4:(ai .neq (List.length p.Readings:Int) (IntKind.i64.wrap (p.Rows * p.dX))) with
    | true=>rw [h4] at h;cases h
    | false =>
     simp only [Bool.or_eq_false_iff,dN,qF,decide_eq_false_iff_not,jB,Bool.not_eq_false',decide_eq_true_eq] at h2 h3 h4
     obtain ⟨⟨a1,a2⟩,_⟩:=h2
     obtain ⟨⟨b1,b2⟩,b3⟩:=h3
     obtain ⟨C,hC⟩:∃ C:Nat,p.dX=(C:Int):=⟨p.dX.toNat,by omega⟩
     obtain ⟨R,hR⟩:∃ R:Nat,p.Rows=(R:Int):=⟨p.Rows.toNat,by omega⟩
     have hm:R * C≤400 * 400:=Nat.mul_le_mul (by omega) (by omega)
     have he:p.Rows * p.dX=((R * C:Nat):Int):=by rw [hR,hC];push_cast;rfl
     rw [he,pO (by have:=Int.natCast_nonneg (R * C);omega) (by omega)] at b3 h4
     exact ⟨C,R,by omega,by omega,by omega,by omega,hC,hR,by omega,by omega⟩
theorem mkB {α:Type} {z:α} {n:Nat} (h:n<1000000):mk z (n:Int) (n:Int)=some (List.replicate n z):=by
 have hlim:(10000000:Int)≤lim:=by decide
 unfold mk
 rw [dT (by omega),dT (by omega),dT (by omega),Int.toNat_natCast];rfl
def sV (g:List Int) (C R i:Nat):List aA×List Bool:=(List.range i).foldl (gst g C R) ([],List.replicate (R * C) false)
theorem FB (g:List Int) (C R i:Nat):sV g C R (i+1)=gst g C R (sV g C R i) i:=by
 unfold sV
 rw [List.range_succ,List.foldl_append];rfl
theorem Ed {g:List Int} {C R:Nat} (hC:0<C) (hn:R * C≤400):∀ i,i≤R * C→GI g C R i (sV g C R i):=by
 intro i
 induction i with
 | zero =>
  intro _
  refine ⟨by show (List.replicate _ _).length=_;rw [List.length_replicate],Nat.le_refl _,fun r hr=>(List.not_mem_nil hr).elim,fun r hr=>(List.not_mem_nil hr).elim,fun d hd hs=>?_,fun d hd=>absurd hd (Nat.not_lt_zero _)⟩
  have hs:(List.replicate (R * C) false)[d]! = true:=hs
  rw [oO (by rw [List.length_replicate];exact hd),List.getElem_replicate] at hs
  cases hs
 | succ i ih =>
  intro h
  rw [FB]
  exact (ih (by omega)).step hC (by omega) hn
theorem JV {C i:Nat} {seen:List Bool}:bx (uH C i seen)=⟨((i % C:Nat):Int),((i / C:Nat):Int),1,1⟩:=by
 unfold bx uH
 simp only [Int.sub_self]
 rfl
section
variable {N:Nat} {p:GPanel} {g:List Int} {C R:Nat} (hC:0<C) (Eh:C≤400) (Hy:R≤400) (hN:1000000≤N) (hpc:p.dX=(C:Int)) (hpr:p.Rows=(R:Int)) (hg:g.length=R * C) (hn:R * C≤400)
include hC Eh Hy hpc hpr hg hn hN in
theorem Hl:kH N p g=some (sV g C R (R * C)).1:=by
 have hlim:lim ≥ 10000000:=by decide
 unfold kH
 rw [mkB (by omega),bS]
 have key:=Aj (N:=N) (f:=gQ N p g) (List.range g.length) (([],List.replicate g.length false):List aA×List Bool) (gst g C R) (fun t i=>(t.1,t.2,i)) (fun t=>t.1) (fun i hi t ht=>?_) (fun t=>?_) (by rw [List.length_range];omega)
 ·have key:bQ (gQ N p g) N ([],List.replicate g.length false,0)=_:=key
  rw [key,bS,hg];rfl
 ·rw [List.length_range] at hi
  have ht:t=sV g C R i:=by
   rw [ht,List.take_range,Nat.min_eq_left (by omega),hg];rfl
  have hG:=Ed (g:=g) (R:=R) hC hn i (by omega)
  rw [← ht] at hG
  rw [List.getElem_range]
  have hl:=hG.len
  have hln:=hG.n
  unfold gQ gst
  simp only []
  rw [dN,dT (by omega),nZ,wB hi,bS,jB,wS (by omega)]
  by_cases h3:g[i]! = 3
  ·rw [decide_eq_true h3]
   simp only [Bool.not_true,Bool.not_false,nZ,Bool.true_and,Bool.false_or]
   rw [wB (by omega),bS]
   cases hs:t.2[i]! with
   | true=>rfl
   | false =>
    obtain ⟨j1,j2⟩:=Jj hC (by omega) hl h3
    simp only [qj,Bool.not_false,nZ]
    rw [bS,hpc,zx hC,bS,CU hC (by omega),bS]
    have hb:=Jh hC Eh Hy hN hpc hpr hg hn 3000 (uH C i t.2) j1.inv (by omega) (by omega) N (by omega)
    rw [JV] at hb
    have hb:bQ (dA N p g) N (List.set t.2 (Int.toNat (i:Int)) true,⟨((i % C:Nat):Int),((i / C:Nat):Int),1,1⟩,[(i:Int)])=_:=hb
    rw [hb,bS,CO (by rw [List.length_singleton];omega),bS]
  ·rw [decide_eq_false h3];rfl
 ·unfold gQ
  simp only [List.length_range]
  rw [dN,dF (by omega),qj]
end
theorem Ap {g:List Int} {C R:Nat} (hC:0<C) (hn:R * C≤400):Good g C R (sV g C R (R * C)).1∧(sV g C R (R * C)).1.length≤400:=by
 have h:=Ed (g:=g) (R:=R) hC hn (R * C) (Nat.le_refl _)
 exact ⟨⟨h.inr,h.ti,fun d hd hg=>h.L6 d hd (h.all d hd hg)⟩,by have:=h.n;omega⟩
structure Jk (g:List Int) (C R:Nat) (res:List aA):Prop where
 good:Good g C R res
 apart:∀ i j,i<j→j<res.length→qo res[i]! res[j]! = false
 len:res.length≤400
def Gg (p:GPanel) (r:GRule) (C R:Nat):List aA:=ren 400 (og (sV (p.Readings.map (jk p r)) C R (R * C)).1)
section
variable {N:Nat} {p:GPanel} {r:GRule} (he:eG p=0) (hr:kG r=0) (hN:2 ^ 64≤N) {C R:Nat} (hC:0<C) (Eh:C≤400) (Hy:R≤400) (hpc:p.dX=(C:Int)) (hpr:p.Rows=(R:Int)) (hlen:p.Readings.length=R * C) (hn:R * C≤400)
theorem E5 (hC:0<C) (hn:R * C≤400):Jk (p.Readings.map (jk p r)) C R (Gg p r C R):=by
 obtain ⟨g1,g2⟩:=Ap (g:=p.Readings.map (jk p r)) (R:=R) hC hn
 have hpl:=(jJ (sV (p.Readings.map (jk p r)) C R (R * C)).1).length_eq
 obtain ⟨r3,r4,r5⟩:=Ji 400 (og (sV (p.Readings.map (jk p r)) C R (R * C)).1) (by omega) (g1.perm (jJ _))
 exact ⟨r3,r4,by unfold Gg;omega⟩
include he hr hN hC Eh Hy hpc hpr hlen hn in
theorem D6:jr N p r=some (Gg p r C R,0):=by
 obtain ⟨g1,g2⟩:=Ap (g:=p.Readings.map (jk p r)) (R:=R) hC hn
 have hgl:(p.Readings.map (jk p r)).length=R * C:=by rw [List.length_map,hlen]
 have hpl:=(jJ (sV (p.Readings.map (jk p r)) C R (R * C)).1).length_eq
 have r1:=Fz (N:=N) (C:=C) (R:=R) (by omega) (by omega) (by omega) 400 (og (sV (p.Readings.map (jk p r)) C R (R * C)).1) (by omega) (by omega) (yR _) (g1.perm (jJ _)) N (by omega)
 unfold jr
 rw [Ai (by omega) hN,if_pos he,if_pos hr,bS]
 simp only []
 rw [jB,show (!decide ((0:Int)=0))=false from rfl,qj,Hl hC Eh Hy (by omega) hpc hpr hgl hn,bS,uy (by omega) (by omega),bS,r1,bS];rfl
end
end Go.KB
namespace Go.KB
set_option linter.unusedVariables false
set_option maxRecDepth 100000
theorem LY:oV (2 ^ 70)=some true:=by kernel_rfl
theorem AY {N:Nat} {p:GPanel} {r:GRule} (h:p.Readings.length<9223372036854775807) (hN:2 ^ 64≤N):jf N p r=some (if eG p=0 then kG r else eG p):=by
 unfold jf
 rw [yI h hN,bS,zi,jB]
 by_cases he:eG p=0
 ·rw [dT he,if_pos he];rfl
 ·rw [dF he,if_neg he];rfl
end Go.KB
namespace Go.KB
set_option linter.unusedVariables false
def vI (C:Nat) (z:aA) (d:Nat):Bool:=!(((decide (((d % C:Nat):Int)<z.X)||decide (((d / C:Nat):Int)<z.Y))||decide (z.X+z.W≤((d % C:Nat):Int)))||decide (z.Y+z.H≤((d / C:Nat):Int)))
theorem Aq {C:Nat} {z:aA} {d:Nat}:vI C z d=true↔zh C z d:=by
 unfold vI zh
 simp only [Bool.not_eq_true',Bool.or_eq_false_iff,decide_eq_false_iff_not]
 omega
abbrev B4:=Bool×Bool×Bool×Bool
def enc4 (e:B4):Int:=(bif e.1 then 1 else 0)+(bif e.2.1 then 2 else 0)+(bif e.2.2.1 then 4 else 0)+(bif e.2.2.2 then 8 else 0)
def sides (C:Nat) (z:aA) (d:Nat):B4:=(decide (((d % C:Nat):Int)=z.X),decide (((d % C:Nat):Int)=z.X+z.W - 1),decide (((d / C:Nat):Int)=z.Y),decide (((d / C:Nat):Int)=z.Y+z.H - 1))
def or4 (a b:B4):B4:=(a.1||b.1,a.2.1||b.2.1,a.2.2.1||b.2.2.1,a.2.2.2||b.2.2.2)
theorem Jl (a b:B4):jl .or .i64 (jl .or .i64 (jl .or .i64 (jl .or .i64 (enc4 a) (bif b.1 then 1 else 0)) (bif b.2.1 then 2 else 0)) (bif b.2.2.1 then 4 else 0)) (bif b.2.2.2 then 8 else 0)=enc4 (or4 a b):=by
 obtain ⟨a1,a2,a3,a4⟩:=a
 obtain ⟨b1,b2,b3,b4⟩:=b
 cases a1 <;> cases a2 <;> cases a3 <;> cases a4 <;> cases b1 <;> cases b2 <;> cases b3 <;> cases b4 <;> decide
def Ee (g:List Int) (C:Nat) (z:aA) (e:B4) (d:Nat):B4:=bif vI C z d&&decide (g[d]! = 3) then or4 e (sides C z d) else e
def qY (g:List Int) (C:Nat) (z:aA) (i:Nat):B4:=(List.range i).foldl (Ee g C z) (false,false,false,false)
theorem wU (g:List Int) (C:Nat) (z:aA) (i:Nat):qY g C z (i+1)=Ee g C z (qY g C z i) i:=by
 unfold qY
 rw [List.range_succ,List.foldl_append];rfl
def le4 (a b:B4):Prop:=(a.1=true→b.1=true)∧(a.2.1=true→b.2.1=true)∧(a.2.2.1=true→b.2.2.1=true)∧(a.2.2.2=true→b.2.2.2=true)
theorem BA {a b c:B4} (h:le4 a b) (h':le4 b c):le4 a c:=⟨fun x=>h'.1 (h.1 x),fun x=>h'.2.1 (h.2.1 x),fun x=>h'.2.2.1 (h.2.2.1 x),fun x=>h'.2.2.2 (h.2.2.2 x)⟩
theorem Jm {a b:B4}:le4 a (or4 a b)∧le4 b (or4 a b):=by
 constructor <;> refine ⟨?_,?_,?_,?_⟩ <;> intro h <;> unfold or4 <;> simp only [h,Bool.or_true,Bool.true_or]
theorem Ar (a:B4):le4 a a:=⟨id,id,id,id⟩
theorem JW {g:List Int} {C:Nat} {z:aA} {e:B4} {d:Nat}:le4 e (Ee g C z e d):=by
 unfold Ee
 cases vI C z d&&decide (g[d]! = 3) with
 | false=>exact Ar _
 | true=>exact Jm.1
theorem Jo {g:List Int} {C:Nat} {z:aA} {i:Nat}:∀ {j:Nat},i≤j→le4 (qY g C z i) (qY g C z j):=by
 intro j h
 induction j with
 | zero=>rw [Nat.le_zero.1 h];exact Ar _
 | succ j ih =>
  by_cases q:i=j+1
  ·rw [q];exact Ar _
  ·rw [wU];exact BA (ih (by omega)) JW
theorem vU {g:List Int} {C:Nat} {z:aA} {n d:Nat} (hd:d<n) (hg:g[d]! = 3) (hi:zh C z d):le4 (sides C z d) (qY g C z n):=by
 refine BA ?_ (Jo (i:=d+1) (by omega))
 rw [wU]
 unfold Ee
 rw [Aq.2 hi,hg]
 exact Jm.2
theorem FC {g:List Int} {C R:Nat} {z:aA} (h:xR g C R z):enc4 (qY g C z (R * C))=15:=by
 obtain ⟨⟨a1,p1,p2,p3,p4⟩,⟨a2,p5,p6,p7,p8⟩,⟨a3,p9,p10,p11,p12⟩,⟨a4,p13,p14,p15,p16⟩⟩:=h
 have h1:=(vU p1 p2 p3).1 (decide_eq_true p4)
 have h2:=(vU p5 p6 p7).2.1 (decide_eq_true p8)
 have h3:=(vU p9 p10 p11).2.2.1 (decide_eq_true p12)
 have h4:=(vU p13 p14 p15).2.2.2 (decide_eq_true p16)
 unfold enc4
 rw [h1,h2,h3,h4];rfl
def cnt (C:Nat) (l:List aA) (d:Nat):Nat→Nat
 | 0=>0
 | j+1=>cnt C l d j+(bif vI C l[j]! d then 1 else 0)
theorem Gj {C d:Nat} {l:List aA} (h:∀ i j,i<j→j<l.length→qo l[i]! l[j]! = false):∀ j,j≤l.length→cnt C l d j≤1∧(cnt C l d j=1→∃ k,k<j∧zh C l[k]! d)∧((∃ k,k<j∧zh C l[k]! d)→cnt C l d j=1):=by
 intro j
 induction j with
 | zero=>intro _;exact ⟨Nat.zero_le _,(fun q=>by cases q),fun ⟨k,q,_⟩=>absurd q (Nat.not_lt_zero _)⟩
 | succ j ih =>
  intro hj
  obtain ⟨a1,a2,a3⟩:=ih (by omega)
  show cnt C l d j+(bif vI C l[j]! d then 1 else 0)≤1∧(cnt C l d j+(bif vI C l[j]! d then 1 else 0)=1→_)∧(_→cnt C l d j+(bif vI C l[j]! d then 1 else 0)=1)
  cases hb:vI C l[j]! d with
  | false =>
   refine ⟨a1,fun q=>?_,fun ⟨k,k1,k2⟩=>?_⟩
   ·obtain ⟨k,k1,k2⟩:=a2 q
    exact ⟨k,by omega,k2⟩
   ·by_cases e : k = j
    ·subst e;rw [Aq.2 k2] at hb;cases hb
    ·exact a3 ⟨k,by omega,k2⟩
  | true =>
   have hin:=Aq.1 hb
   have hz:cnt C l d j=0:=by
    by_cases q:cnt C l d j=1
    ·obtain ⟨k,k1,k2⟩:=a2 q
     have:=h k j k1 (by omega)
     unfold zh at hin k2
     unfold qo at this
     rw [dT (by omega),dT (by omega),dT (by omega),dT (by omega)] at this
     cases this
    ·omega
   rw [hz]
   exact ⟨Nat.le_refl _,fun _=>⟨j,by omega,hin⟩,fun _=>rfl⟩
def iJ (g:List Int) (C:Nat) (l:List aA) (i j:Nat):List Int:=(List.range l.length).map fun k=>enc4 (qY g C l[k]! (if k<j then i+1 else i))
theorem jD {g:List Int} {C i j:Nat} {l:List aA}:(iJ g C l i j).length=l.length:=by unfold iJ;simp
theorem mX {g:List Int} {C i j k:Nat} {l:List aA} (hk:k<l.length):(iJ g C l i j)[k]! = enc4 (qY g C l[k]! (if k<j then i+1 else i)):=by
 rw [oO (by rw [jD];exact hk)]
 unfold iJ
 rw [List.getElem_map,List.getElem_range]
theorem yU {g:List Int} {C i j:Nat} {l:List aA} (hj:j<l.length):(iJ g C l i j).set j (enc4 (qY g C l[j]! (i+1)))=iJ g C l i (j+1):=by
  refine List.ext_getElem (by rw [List.length_set,jD,jD]) fun k h1 h2=>?_
  have hk:k<l.length:=by rw [jD] at h2;exact h2
  rw [← oO h2,mX hk,List.getElem_set]
  by_cases h:j=k
  · subst h;rw [if_pos rfl,if_pos (by omega)]
  · rw [if_neg h, ← oO (by rw [jD]; exact hk), mX hk]
    by_cases q:k<j
    · rw [if_pos q,if_pos (by omega)]
    · rw [if_neg q,if_neg (by omega)]
theorem xX {g:List Int} {C i j:Nat} {l:List aA} (hj:j<l.length) (h:qY g C l[j]! (i+1)=qY g C l[j]! i):iJ g C l i j=iJ g C l i (j+1):=by
 rw [← yU hj,h]
 refine (List.ext_getElem (by rw [List.length_set]) fun k h1 h2=>?_)
 rw [List.getElem_set]
 by_cases e:j=k
 ·subst e
  rw [if_pos rfl,← oO h1,mX hj,if_neg (Nat.lt_irrefl _)]
 ·rw [if_neg e]
theorem Ef {g:List Int} {C i:Nat} {l:List aA}:iJ g C l i l.length=iJ g C l (i+1) 0:=by
 unfold iJ
 refine List.map_congr_left fun k hk=>?_
 rw [if_pos (List.mem_range.1 hk),if_neg (Nat.not_lt_zero _)]
theorem JX {N:Nat} {b:Bool} {v:Int}:ku N b v=some (bif b then v else 0):=by cases b <;> rfl
section
variable {N:Nat} {g:List Int} {C R:Nat} {res:List aA} (hC:0<C) (Eh:C≤400) (Hy:R≤400) (hg:g.length=R * C) (hn:R * C≤400) (hr:Jk g C R res) (hN:1000000≤N)
include Eh Hy hr hN hg in
theorem Ho {i:Nat} (hi:i<R * C) (E:List Int):bQ (eU N (g,0) (res,0) (E,(i:Int)) ((i % C:Nat):Int) ((i / C:Nat):Int)) N (iJ g C res i 0,0,0)=some (iJ g C res (i+1) 0,((cnt C res i res.length:Nat):Int)):=by
  have hrl:=hr.len
  rw [← Ef]
  refine uz (n:=res.length) (fun j=>(iJ g C res i j,((cnt C res i j:Nat):Int),(j:Int))) _ (fun j hj=>?_) ?_ (by omega)
  · have hcl := (Gj (C := C) (d := i) hr.apart j (by omega)).1
    have hz:Ff (C:Int) (R:Int) res[j]!:=hr.good.inr _ (by rw [oO hj];exact List.getElem_mem _)
    obtain ⟨z1,z2,z3,z4,z5,z6⟩:=hz
    have hel:=jD (g:=g) (C:=C) (i:=i) (j:=j) (l:=res)
    have hget:=mX (g:=g) (C:=C) (i:=i) (j:=j) (l:=res) hj
    rw [if_neg (Nat.lt_irrefl _)] at hget
    have hfold:=wU g C res[j]! i
    have hcnt:cnt C res i (j+1)=cnt C res i j+(bif vI C res[j]! i then 1 else 0):=rfl
    have hsame:vI C res[j]! i=false→(some (Sum.inl (iJ g C res i j,((cnt C res i j:Nat):Int),(((j:Nat)+1:Nat):Int))):Option ((List Int×Int×Int) ⊕ (List Int×Int)))=some (.inl (iJ g C res i (j+1),((cnt C res i (j+1):Nat):Int),((j+1:Nat):Int))):=fun hb=>by
      rw [← xX hj (by rw [hfold];unfold Ee;rw [hb];rfl),hcnt,hb];rfl
    unfold eU
    simp only []
    rw [dN,dT (by omega),nZ]
    simp only [wB hj,bS]
    have w1:∀ x:Int,-1000≤x→x≤1000→IntKind.i64.wrap x=x:=fun x a b=>pO (by omega) (by omega)
    rw [wS (n:=j) (by omega),wS (n:=cnt C res i j) (by omega)]
    simp only [dN,pz,pq]
    by_cases c1:((i % C:Nat):Int)<(res[j]!).X
    · simp only [dT c1,Bool.not_true,Bool.true_or,nZ,qj,bS]
      exact hsame (by unfold vI;rw [dT c1];rfl)
    · simp only [dF c1,Bool.not_false,Bool.false_or,nZ,bS]
      by_cases c2:((i / C:Nat):Int)<(res[j]!).Y
      · simp only [dT c2,Bool.not_true,Bool.true_or,nZ,qj,bS]
        exact hsame (by unfold vI;rw [dT c2];simp)
      · simp only [dF c2,Bool.not_false,Bool.false_or,nZ,bS]
        rw [w1 ((res[j]!).X+(res[j]!).W) (by omega) (by omega)]
        by_cases c3:(res[j]!).X+(res[j]!).W≤((i % C:Nat):Int)
        · simp only [dT c3,ge_iff_le,Bool.not_true,Bool.true_or,nZ,qj,bS]
          exact hsame (by unfold vI;rw [dT c3];simp)
        · simp only [dF c3,ge_iff_le,Bool.not_false,Bool.false_or,nZ,bS]
          rw [w1 ((res[j]!).Y+(res[j]!).H) (by omega) (by omega)]
          by_cases c4:(res[j]!).Y+(res[j]!).H≤((i / C:Nat):Int)
          · simp only [dT c4,nZ]
            exact hsame (by unfold vI;rw [dT c4];simp)
          · have hb : vI C res[j]! i = true := by unfold vI; rw [dF c1, dF c2, dF c3, dF c4]; rfl
            simp only [dF c4,qj]
            rw [wB (by omega:i<g.length),bS,hcnt,hb,nZ]
            by_cases h3:g[i]! = 3
            · rw [dT h3, nZ, wB (by omega : j < (iJ g C res i j).length), hget, w1 ((res[j]!).X + (res[j]!).W - 1) (by omega) (by omega), w1 ((res[j]!).Y + (res[j]!).H - 1) (by omega) (by omega)]
              simp only [JX,bS,Int.toNat_natCast]
              have hk:=Jl (qY g C res[j]! i) (sides C res[j]! i)
              have hu:qY g C res[j]! (i+1)=or4 (qY g C res[j]! i) (sides C res[j]! i):=by rw [hfold];unfold Ee;rw [hb,dT h3];rfl
              rw [← hu] at hk
              unfold sides at hk
              simp only [] at hk
              rw [hk,yU hj]
            · rw [dF h3,qj,← xX hj (by rw [hfold];unfold Ee;rw [hb,dF h3];rfl)]
  · unfold eU
    simp only []
    rw [dN,dF (by omega),qj]
include hC Eh Hy hg hn hr hN in
theorem G6 {p:GPanel} (hpc:p.dX=(C:Int)):bQ (eP N p (g,0) (res,0)) N (List.replicate res.length 0,0)=some (.inl (iJ g C res (R * C) 0)):=by
 have hrl:=hr.len
 have h0:List.replicate res.length (0:Int)=iJ g C res 0 0:=by
  refine List.ext_getElem (by rw [List.length_replicate,jD]) fun k h1 h2=>?_
  have hk:k<res.length:=by rw [jD] at h2;exact h2
  rw [List.getElem_replicate,← oO h2,mX hk];rfl
 rw [h0]
 refine uz (n:=R * C) (fun i=>(iJ g C res i 0,(i:Int))) _ (fun i hi=>?_) ?_ (by omega)
 ·obtain ⟨a1,a2,a3⟩:=Gj (C:=C) (d:=i) hr.apart res.length (Nat.le_refl _)
  unfold eP
  simp only []
  rw [dN,dT (by omega),nZ,hpc,zx hC,bS,CU hC (by omega),bS,Ho Eh Hy hg hr hN hi,bS]
  simp only []
  rw [qF,dF (by omega),Bool.not_false,nZ,wB (by omega),bS,pq,jB,wS (by omega)]
  by_cases h3:g[i]! = 3
  ·obtain ⟨r,hr1,hr2⟩:=hr.good.L6 i hi h3
   obtain ⟨k,hk,rfl⟩:=List.getElem_of_mem hr1
   rw [← oO hk] at hr2
   rw [dT h3,a3 ⟨k,hk,hr2⟩];rfl
  ·rw [dF h3];rfl
 ·unfold eP
  simp only []
  rw [dN,dF (by omega),qj]
include Eh Hy hr hN in
theorem G7 {p:GPanel} (hpc:p.dX=(C:Int)) (hpr:p.Rows=(R:Int)):bQ (eY N p (res,0) (iJ g C res (R * C) 0)) N 0=some (.inl ()):=by
  have hrl:=hr.len
  refine uz (n:=res.length) (fun j=>(j:Int)) _ (fun j hj=>?_) ?_ (by omega)
  · have hz : Ff (C : Int) (R : Int) res[j]! := hr.good.inr _ (by rw [oO hj]; exact List.getElem_mem _)
    have ht:xR g C R res[j]!:=hr.good.ti _ (by rw [oO hj];exact List.getElem_mem _)
    obtain ⟨z1,z2,z3,z4,z5,z6⟩:=hz
    have w1:∀ x:Int,-1000≤x→x≤1000→IntKind.i64.wrap x=x:=fun x a b=>pO (by omega) (by omega)
    unfold eY
    simp only []
    rw [dN,dT (by omega),nZ,wB (by rw [jD];exact hj),bS,mX hj,if_neg (Nat.not_lt_zero _),FC ht]
    simp only [wB hj,jB,decide_true,Bool.not_true,Bool.not_false,nZ,bS,Bool.false_or,dN,qF]
    rw [dF (by omega:¬ (res[j]!).X<0)]
    simp only [Bool.not_false,nZ,bS,Bool.false_or]
    rw [dF (by omega:¬ (res[j]!).Y<0)]
    simp only [Bool.not_false,nZ,bS,Bool.false_or]
    rw [w1 ((res[j]!).X+(res[j]!).W) (by omega) (by omega),dF (by omega:¬ (res[j]!).X+(res[j]!).W > p.dX)]
    simp only [Bool.not_false,nZ,bS,Bool.false_or]
    rw [w1 ((res[j]!).Y+(res[j]!).H) (by omega) (by omega),dF (by omega:¬ (res[j]!).Y+(res[j]!).H > p.Rows),qj,wS (by omega)]
  · unfold eY
    simp only []
    rw [dN,dF (by omega),qj]
end
end Go.KB
