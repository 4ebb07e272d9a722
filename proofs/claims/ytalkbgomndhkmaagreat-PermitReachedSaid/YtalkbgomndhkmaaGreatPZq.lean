/- Plain laws of chapter 7: the open permits are a possible set. The possible sets of permits, in their order. Reachable and Maximal. No condition. -/
import Derived.Test.YtalkbgomndhkmaaGreatPZo
import Derived.Test.YtalkbgomndhkmaaGreatPZp
namespace Go.KB
set_option linter.unusedVariables false
theorem PL {p:GPermitPlan} {A:AO} {so:aA→Bool} {s:Str}:s ∈ lI p A so↔∃ x ∈ p.ax,x.Name=s∧stA A s=2∧so x=true:=by
 unfold lI
 rw [List.mem_map]
 constructor
 ·rintro ⟨x,hx,rfl⟩
  obtain ⟨h1,h2⟩:=List.mem_filter.1 hx
  rw [Bool.and_eq_true,decide_eq_true_eq] at h2
  exact ⟨x,h1,rfl,h2⟩
 ·rintro ⟨x,h1,rfl,h2,h3⟩
  exact ⟨x,List.mem_filter.2 ⟨h1,by rw [h3,dT h2];rfl⟩,rfl⟩
theorem Wi {p:GPermitPlan} {A:AO} {so:aA→Bool}:(lI p A so).length≤p.ax.length:=by
 unfold lI;rw [List.length_map];exact List.length_filter_le _ _
theorem Uc {p:GPermitPlan} {A:AO} (hi:Lp p A) {x:aA} (hx:x ∈ p.ax) (h2:stA A x.Name=2):(∀ k ∈ x.Locks,stA A k=2)∧∀ s ∈ Ej p x,MI p A x s=true:=by
 have hb:=hi.un x hx h2
 unfold yS at hb
 rw [Bool.or_eq_false_iff,Bool.not_eq_false',Bool.not_eq_false',List.isEmpty_iff,List.isEmpty_iff] at hb
 constructor
 ·intro k hk
  have:=List.filter_eq_nil_iff.1 hb.2 k hk
  simpa using this
 ·intro s hs
  have:=List.filter_eq_nil_iff.1 hb.1 s hs
  simpa using this
theorem Ud {p:GPermitPlan} (ho:IU p) {A:AO} (hi:Lp p A) {so:aA→Bool} (hso:∀ x ∈ p.ax,∀ k ∈ x.Locks,stA A x.Name=2→so x=true→so (qH p k)=true):Cb p ((lI p A so).map (qH p))=true:=by
 have hmem:∀ x ∈ (lI p A so).map (qH p),x ∈ p.ax∧stA A x.Name=2∧so x=true:=by
  intro x hx
  obtain ⟨s,hs,rfl⟩:=List.mem_map.1 hx
  obtain ⟨y,hy,rfl,h2,h3⟩:=PL.1 hs
  rw [ho.Em hy];exact ⟨hy,h2,h3⟩
 rw [Ue]
 refine ⟨fun x hx y hy=>?_,fun x hx k hk=>?_⟩
 ·obtain ⟨a1,a2,_⟩:=hmem x hx
  obtain ⟨b1,b2,_⟩:=hmem y hy
  exact hi.w.ex x a1 y b1 a2 b2
 ·obtain ⟨a1,a2,a3⟩:=hmem x hx
  have hk2:=(Uc hi a1 a2).1 k hk
  have hh:=(ho.lk x a1 k hk).1
  obtain ⟨c1,c2⟩:=yT hh
  exact ⟨qH p k,List.mem_map.2 ⟨k,PL.2 ⟨qH p k,c1,c2,hk2,hso x a1 k hk a2 a3⟩,rfl⟩,c2⟩
end Go.KB
namespace Go.KB
set_option linter.unusedVariables false
theorem Uf {β:Type} {c:β→β→Option Int} {k:β→β→Int} {xs:List β} (hc:∀ x ∈ xs,∀ y ∈ xs,c x y=some (k x y)) (h1:∀ x y,k x y≤0↔0≤k y x) (h2:∀ x y,k x y=0→x=y) (h3:∀ x y z,k x y≤0→k y z≤0→k x z≤0):Dk c xs:=by
 have hl:∀ x ∈ xs,∀ y ∈ xs,GR c x y=decide (k x y<0):=fun x hx y hy=>by unfold GR;rw [hc x hx y hy]
 have h0:∀ x,k x x=0:=fun x=>by
  have:=h1 x x
  omega
 refine ⟨fun x hx y hy=>⟨_,hc x hx y hy⟩,fun x hx=>by rw [hl x hx x hx,h0];rfl,fun x hx y hy z hz a b=>?_,fun x hx y hy z hz a b=>?_,fun x hx y hy a b=>?_⟩
 ·rw [hl x hx y hy,decide_eq_true_eq] at a
  rw [hl y hy z hz,decide_eq_true_eq] at b
  rw [hl x hx z hz,decide_eq_true_eq]
  have h4:=h3 x y z (by omega) (by omega)
  by_cases h5:k x z=0
  ·have:=h2 _ _ h5
   subst this
   have h6:=(h1 x y).1 (by omega)
   omega
  ·omega
 ·rw [hl x hx y hy,decide_eq_false_iff_not] at a
  rw [hl y hy z hz,decide_eq_false_iff_not] at b
  rw [hl x hx z hz,decide_eq_false_iff_not]
  have h4:=h3 z y x ((h1 z y).2 (by omega)) ((h1 y x).2 (by omega))
  have h5:=(h1 z x).1 h4
  omega
 ·rw [hl x hx y hy,decide_eq_false_iff_not] at a
  rw [hl y hy x hx,decide_eq_false_iff_not] at b
  refine h2 _ _ ?_
  have h4:=(h1 x y).2 (by omega)
  omega
def Aw:List Int→List Int→Int
 | [],[]=>0
 | [],_ :: _=>-1
 | _ :: _,[]=>1
 | x :: a,y :: b=>if x<y then -1 else if y<x then 1 else Aw a b
theorem Ug:∀ a b,Aw a b≤0↔0≤Aw b a:=by
 intro a
 induction a with
 | nil=>intro b;cases b <;> simp [Aw]
 | cons x a ih =>
  intro b
  cases b with
  | nil=>simp [Aw]
  | cons y b =>
   unfold Aw
   by_cases h1:x<y
   ·rw [if_pos h1,if_neg (by omega),if_pos h1];decide
   ·rw [if_neg h1]
    by_cases h2:y<x
    ·rw [if_pos h2,if_pos h2];decide
    ·rw [if_neg h2,if_neg h2,if_neg h1];exact ih b
theorem Uh:∀ a b,Aw a b=0→a=b:=by
 intro a
 induction a with
 | nil=>intro b h;cases b with
  | nil=>rfl
  | cons _ _=>simp [Aw] at h
 | cons x a ih =>
  intro b h
  cases b with
  | nil=>simp [Aw] at h
  | cons y b =>
   unfold Aw at h
   by_cases h1:x<y
   ·rw [if_pos h1] at h;exact absurd h (by decide)
   ·rw [if_neg h1] at h
    by_cases h2:y<x
    ·rw [if_pos h2] at h;exact absurd h (by decide)
    ·rw [if_neg h2] at h
     rw [ih b h,show x=y by omega]
theorem Rl:∀ a b c,Aw a b≤0→Aw b c≤0→Aw a c≤0:=by
 intro a
 induction a with
 | nil=>intro b c _ _;cases c <;> simp [Aw]
 | cons x a ih =>
  intro b c h1 h2
  cases b with
  | nil=>simp [Aw] at h1
  | cons y b =>
   cases c with
   | nil=>simp [Aw] at h2
   | cons z c =>
    unfold Aw at h1 h2 ⊢
    by_cases g1:x<y
    ·by_cases g2 : y < z
     ·rw [if_pos (by omega)];decide
     ·rw [if_neg g2] at h2
      by_cases g3:z<y
      ·rw [if_pos g3] at h2;exact absurd h2 (by decide)
      ·rw [if_pos (by omega)];decide
    ·rw [if_neg g1] at h1
     by_cases g3:y<x
     ·rw [if_pos g3] at h1;exact absurd h1 (by decide)
     ·rw [if_neg g3] at h1
      by_cases g2:y<z
      ·rw [if_pos (by omega)];decide
      ·rw [if_neg g2] at h2
       by_cases g4:z<y
       ·rw [if_pos g4] at h2;exact absurd h2 (by decide)
       ·rw [if_neg g4] at h2
        rw [if_neg (by omega),if_neg (by omega)]
        exact ih b c h1 h2
def Ii (a b:List Int):Int:=if a.length<b.length then -1 else if b.length<a.length then 1 else Aw a b
theorem Ui (a b:List Int):Ii a b≤0↔0≤Ii b a:=by
 unfold Ii
 by_cases h1:a.length<b.length
 ·rw [if_pos h1,if_neg (by omega),if_pos h1];decide
 ·rw [if_neg h1]
  by_cases h2:b.length<a.length
  ·rw [if_pos h2,if_pos h2];decide
  ·rw [if_neg h2,if_neg h2,if_neg h1];exact Ug a b
theorem Uj (a b:List Int) (h:Ii a b=0):a=b:=by
 unfold Ii at h
 by_cases h1:a.length<b.length
 ·rw [if_pos h1] at h;exact absurd h (by decide)
 ·rw [if_neg h1] at h
  by_cases h2:b.length<a.length
  ·rw [if_pos h2] at h;exact absurd h (by decide)
  ·rw [if_neg h2] at h;exact Uh a b h
theorem Rn (a b c:List Int) (h1:Ii a b≤0) (h2:Ii b c≤0):Ii a c≤0:=by
  unfold Ii at h1 h2 ⊢
  have e1:a.length≤b.length:=Nat.le_of_not_lt fun h=>by rw [if_neg (by omega),if_pos h] at h1;exact absurd h1 (by decide)
  have e2:b.length≤c.length:=Nat.le_of_not_lt fun h=>by rw [if_neg (by omega),if_pos h] at h2;exact absurd h2 (by decide)
  by_cases h:a.length<c.length
  · rw [if_pos h];decide
  · rw [if_neg h, if_neg (by omega)]
    rw [if_neg (by omega),if_neg (by omega)] at h1 h2
    exact Rl a b c h1 h2
theorem Wj {N:Nat} {a:Int}:uj N a=some false:=by
 unfold uj
 rw [rJ];simp
theorem Fj {N:Nat} {a b:Int}:qY N a b=some (if a<b then -1 else if b<a then 1 else 0):=by
 unfold qY
 rw [Wj,Wj,bS,bS,lM,lM,bH,qo]
 by_cases h1:a<b
 ·rw [dT h1,if_pos h1];rfl
 ·rw [dF h1,if_neg h1,lM]
  by_cases h2:b<a
  ·rw [dT h2,if_pos h2];rfl
  ·rw [dF h2,if_neg h2];rfl
theorem Uk {a b:List Int}:∀ {i:Nat},(hi:i<a.length)→Aw (a.drop i) (b.drop i)=(if h:i<b.length then (if a[i]<b[i] then -1 else if b[i]<a[i] then 1 else Aw (a.drop (i+1)) (b.drop (i+1))) else 1):=by
 intro i hi
 rw [List.drop_eq_getElem_cons hi]
 by_cases h:i<b.length
 ·rw [dif_pos h,List.drop_eq_getElem_cons h];rfl
 ·rw [dif_neg h,List.drop_of_length_le (l:=b) (by omega)];rfl
theorem Ij {N:Nat} {a b:List Int} (ha:a.length<1000000) (hb:b.length<1000000) (hN:1000000≤N):nH N a b=some (Aw a b):=by
 have key:∀ k i M,i+k=a.length→k<M→∃ o,bZ (fE N a b) M (i:Int)=some o∧Sum.elim (fun _=>if a.length<b.length then (-1:Int) else 0) (fun r=>r) o=Aw (a.drop i) (b.drop i):=by
  intro k
  induction k with
  | zero =>
   intro i M hi hM
   obtain ⟨M,rfl⟩:∃ m,M=m+1:=⟨M - 1,by omega⟩
   have e:fE N a b (i:Int)=some (.inr (.inl ())):=by
    unfold fE
    rw [bH,dF (by omega),lM]
   refine ⟨.inl (),by rw [bZ,e],?_⟩
   rw [List.drop_of_length_le (l:=a) (by omega)]
   simp only [Sum.elim_inl]
   by_cases h:a.length<b.length
   ·rw [if_pos h,List.drop_eq_getElem_cons (l:=b) (by omega)];rfl
   ·rw [if_neg h,List.drop_of_length_le (l:=b) (by omega)];rfl
  | succ k ih =>
   intro i M hi hM
   obtain ⟨M,rfl⟩:∃ m,M=m+1:=⟨M - 1,by omega⟩
   have hia:i<a.length:=by omega
   rw [Uk hia]
   by_cases h:i<b.length
   ·rw [dif_pos h]
    have e:fE N a b (i:Int)=bif aN .neq (if a[i]<b[i] then -1 else if b[i]<a[i] then 1 else 0) 0 then some (.inr (Sum.inr (if a[i]<b[i] then -1 else if b[i]<a[i] then 1 else 0))) else some (.inl ((i+1:Nat):Int)):=by
     unfold fE
     rw [bH,dT (by omega),lN,ig hia,bS,wS,dF (by omega),lM,ig h,bS,Fj,bS,nY (by omega)]
    by_cases h1:a[i]<b[i]
    ·rw [if_pos h1] at e
     exact ⟨.inr (-1),by rw [bZ,e];rfl,by rw [if_pos h1];rfl⟩
    ·by_cases h2 : b[i] < a[i]
     ·rw [if_neg h1,if_pos h2] at e
      exact ⟨.inr 1,by rw [bZ,e];rfl,by rw [if_neg h1,if_pos h2];rfl⟩
     ·rw [if_neg h1,if_neg h2] at e
      obtain ⟨o,h3,h4⟩:=ih (i+1) M (by omega) (by omega)
      exact ⟨o,by rw [bZ,e];exact h3,by rw [if_neg h1,if_neg h2];exact h4⟩
   ·rw [dif_neg h]
    have e:fE N a b (i:Int)=some (.inr (Sum.inr 1)):=by
     unfold fE
     rw [bH,dT (by omega),lN,ig hia,bS,wS,dT (by omega),lN]
    exact ⟨.inr 1,by rw [bZ,e],rfl⟩
 obtain ⟨o,h1,h2⟩:=key a.length 0 N (by omega) (by omega)
 unfold nH
 have h1:bZ (fE N a b) N 0=some o:=h1
 rw [h1,bS]
 rw [List.drop_zero,List.drop_zero] at h2
 cases o with
 | inl u =>
  simp only [Sum.elim_inl] at h2 ⊢
  rw [← h2,bH]
  by_cases h:a.length<b.length
  ·rw [dT (by omega),if_pos h];rfl
  ·rw [dF (by omega),if_neg h];rfl
 | inr r=>simp only [Sum.elim_inr] at h2 ⊢;rw [h2]
theorem Wl {N:Nat} {a b:Int} (hN:1000000≤N):yI N [a,b]=some (if a=0 then b else a):=by
  obtain ⟨N,rfl⟩:∃ m,N=m+3:=⟨N - 3,by omega⟩
  unfold yI
  have e0:nI (N+3) [a,b] 0=bif aN .neq a 0 then some (.inr (Sum.inr a)) else some (.inl 1):=rfl
  have e1:nI (N+3) [a,b] 1=bif aN .neq b 0 then some (.inr (Sum.inr b)) else some (.inl 2):=rfl
  have e2:nI (N+3) [a,b] 2=some (.inr (.inl ())):=rfl
  by_cases h:a=0
  · have e0 : nI (N + 3) [a, b] 0 = some (.inl 1) := by rw [e0, rJ, dT h]; rfl
    rw [if_pos h,bZ,e0]
    simp only []
    by_cases h1:b=0
    · have e1 : nI (N + 3) [a, b] 1 = some (.inl 2) := by rw [e1, rJ, dT h1]; rfl
      rw [bZ,e1]
      simp only []
      rw [bZ,e2,h1];rfl
    · have e1 : nI (N + 3) [a, b] 1 = some (.inr (Sum.inr b)) := by rw [e1, rJ, dF h1]; rfl
      rw [bZ,e1];rfl
  · have e0 : nI (N + 3) [a, b] 0 = some (.inr (Sum.inr a)) := by rw [e0, rJ, dF h]; rfl
    rw [if_neg h,bZ,e0];rfl
theorem Ul {N:Nat} {a b:List Int} (ha:a.length<1000000) (hb:b.length<1000000) (hN:1000000≤N):lm N a b=some (Ii a b):=by
  unfold lm
  rw [Fj,bS,Ij ha hb hN,bS,Wl hN,bS]
  unfold Ii
  by_cases h1:a.length<b.length
  · have e : (if (a.length : Int) < (b.length : Int) then (-1 : Int) else if (b.length : Int) < a.length then 1 else 0) = -1 := if_pos (by omega)
    rw [e,if_pos h1];rfl
  · by_cases h2 : b.length < a.length
    · have e : (if (a.length : Int) < (b.length : Int) then (-1 : Int) else if (b.length : Int) < a.length then 1 else 0) = 1 := by rw [if_neg (by omega), if_pos (by omega)]
      rw [e,if_neg h1,if_pos h2];rfl
    · have e : (if (a.length : Int) < (b.length : Int) then (-1 : Int) else if (b.length : Int) < a.length then 1 else 0) = 0 := by rw [if_neg (by omega), if_neg (by omega)]
      rw [e,if_neg h1,if_neg h2];rfl
def wU (n b:Nat):List Nat:=(List.range n).filter fun i=>b.testBit i
def yA (p:GPermitPlan) (b:Nat):List aA:=(wU p.ax.length b).map fun i=>p.ax[i]!
def F6 (p:GPermitPlan):List (List Int):=((List.range (2 ^ p.ax.length)).filter fun b=>Cb p (yA p b)).map fun b=>(wU p.ax.length b).map fun (i:Nat)=>(i:Int)
def sQ (p:GPermitPlan):List (List Int):=xK (fun a b=>some (Ii a b)) (F6 p)
theorem ZL {b i:Nat} (hb:b<1024) (hi:i<20):((Rf .i64 (b:Int) (i:Int)).bind fun v5=>some (aN .eql (Q9 .and .i64 v5 1) 1))=some (b.testBit i):=by
 have e1:Rf .i64 (b:Int) (i:Int)=some ((b / 2 ^ i:Nat):Int):=by
  unfold Rf
  rw [if_neg (by omega)]
  have:min (i:Int).toNat IntKind.i64.bits=i:=by
   show min (i:Int).toNat 64=i
   omega
  rw [this,Int.fdiv_eq_ediv_of_nonneg _ (by exact_mod_cast Nat.zero_le _)]
  congr 1
 have hq:b / 2 ^ i<1024:=Nat.lt_of_le_of_lt (Nat.div_le_self _ _) hb
 have e2:Q9 .and .i64 ((b / 2 ^ i:Nat):Int) 1=((b / 2 ^ i % 2:Nat):Int):=by
  unfold Q9
  simp only []
  have e:(BitVec.ofInt IntKind.i64.bits ((b / 2 ^ i:Nat):Int) &&& BitVec.ofInt IntKind.i64.bits (1:Int)).toNat=b / 2 ^ i % 2:=by
   rw [BitVec.ofInt_natCast,BitVec.toNat_and,BitVec.toNat_ofNat]
   show b / 2 ^ i % 2 ^ 64 &&& 1=_
   rw [Nat.mod_eq_of_lt (by omega)]
   exact Nat.and_two_pow_sub_one_eq_mod _ 1
  rw [e]
  exact XW (by omega) (by omega)
 rw [e1,bS,e2,rM,Nat.testBit_eq_decide_div_mod_eq]
 congr 1
 rw [decide_eq_decide]
 omega
theorem Dp {α β γ : Type} (g : α → Bool) (h1 : α → β) (h2 : α → γ) : ∀ (l : List α) (a : List β) (c : List γ), l.foldl (fun t x => bif g x then (t.1 ++ [h1 x], t.2 ++ [h2 x]) else t) (a, c) = (a ++ (l.filter g).map h1, c ++ (l.filter g).map h2)
  | [],a,c=>by simp
  | x :: r,a,c=>by
    rw [List.foldl_cons]
    cases hx:g x with
    | true =>
      rw [lN,Dp g h1 h2 r]
      rw [List.filter_cons_of_pos hx];simp
    | false=>rw [lM,Dp g h1 h2 r,List.filter_cons_of_neg (by rw [hx];decide)]
theorem Kq {β:Type} {c c':β→β→Option Int} {x:β}:∀ l,(∀ y ∈ l,GR c y x=GR c' y x)→Ig c x l=Ig c' x l
 | [],_=>rfl
 | y :: l,h=>by
  show (bif GR c y x then y :: Ig c x l else x :: y :: l)=(bif GR c' y x then y :: Ig c' x l else x :: y :: l)
  rw [h y List.mem_cons_self,Kq l fun z hz=>h z (List.mem_cons_of_mem _ hz)]
theorem GU {β:Type} {c c':β→β→Option Int}:∀ l,(∀ x ∈ l,∀ y ∈ l,GR c x y=GR c' x y)→xK c l=xK c' l
 | [],_=>rfl
 | x :: l,h=>by
  show Ig c x (xK c l)=Ig c' x (xK c' l)
  rw [GU l fun y hy z hz=>h y (List.mem_cons_of_mem _ hy) z (List.mem_cons_of_mem _ hz)]
  exact Kq _ fun y hy=>h y (List.mem_cons_of_mem _ ((vY c' l).mem_iff.1 hy)) x List.mem_cons_self
theorem MJ {n b i:Nat} (h:i ∈ wU n b):i<n:=by
 unfold wU at h
 exact List.mem_range.1 (List.mem_filter.1 h).1
theorem Kr {n b:Nat}:(wU n b).length≤n:=by
 unfold wU
 exact Nat.le_trans (List.length_filter_le _ _) (by rw [List.length_range];exact Nat.le_refl _)
theorem Wn {p:GPermitPlan} {a:List Int} (h:a ∈ F6 p):∃ b,b<2 ^ p.ax.length∧Cb p (yA p b)=true∧a=(wU p.ax.length b).map fun (i:Nat)=>(i:Int):=by
 unfold F6 at h
 obtain ⟨b,hb,rfl⟩:=List.mem_map.1 h
 obtain ⟨h1,h2⟩:=List.mem_filter.1 hb
 exact ⟨b,List.mem_range.1 h1,h2,rfl⟩
theorem Wp {p:GPermitPlan} {b:Nat} (h1:b<2 ^ p.ax.length) (h2:Cb p (yA p b)=true):((wU p.ax.length b).map fun (i:Nat)=>(i:Int)) ∈ F6 p :=
 List.mem_map.2 ⟨b,List.mem_filter.2 ⟨List.mem_range.2 h1,h2⟩,rfl⟩
theorem yx {p:GPermitPlan} {a:List Int}:a ∈ sQ p↔a ∈ F6 p:=(vY _ _).mem_iff
theorem PN {p:GPermitPlan}:(F6 p).length≤2 ^ p.ax.length:=by
 unfold F6
 rw [List.length_map]
 exact Nat.le_trans (List.length_filter_le _ _) (by rw [List.length_range];exact Nat.le_refl _)
theorem Dn {p:GPermitPlan} {a:List Int} (h:a ∈ F6 p):a.length≤p.ax.length∧∀ i ∈ a,∃ k:Nat,i=(k:Int)∧k<p.ax.length:=by
 obtain ⟨b,_,_,rfl⟩:=Wn h
 refine ⟨by rw [List.length_map];exact Kr,fun i hi=>?_⟩
 obtain ⟨k,hk,rfl⟩:=List.mem_map.1 hi
 exact ⟨k,rfl,MJ hk⟩
theorem pow10 {n:Nat} (h:n≤10):2 ^ n≤1024:=by
 have:=Nat.pow_le_pow_right (n:=2) (by decide) h
 exact this
section
variable {N:Nat} {p:GPermitPlan} (hp:Fa p) (hN:1000000≤N) (hn:p.ax.length≤10)
include hN hn in
theorem Um {b:Nat} (hb:b<1024) (out:List (List Int)):bZ (qf N p (out,(b:Int))) N ([],[],0)=some ((wU p.ax.length b).map (fun (i:Nat)=>(i:Int)),yA p b):=by
  have hlim:lim ≥ 10000000:=by decide
  have key:=F7 (N:=N) (f:=qf N p (out,(b:Int))) (List.range p.ax.length) (([]:List Int),([]:List aA)) (fun t i=>bif b.testBit i then (t.1 ++ [(i:Int)],t.2 ++ [p.ax[i]!]) else t) (fun t i=>(t.1,t.2,i)) (fun t=>(t.1,t.2)) (fun i hi t ht=>?_) (fun t=>?_) (by rw [List.length_range];omega)
  · rw [Dp (fun i => b.testBit i) (fun (i : Nat) => (i : Int)) (fun i => p.ax[i]!)] at key
    exact key
  · rw [List.length_range] at hi
    rw [List.getElem_range]
    rw [Dp (fun i=>b.testBit i) (fun (i:Nat)=>(i:Int)) (fun i=>p.ax[i]!)] at ht
    have hl:=List.length_filter_le (fun i=>b.testBit i) ((List.range p.ax.length).take i)
    have hl2:((List.range p.ax.length).take i).length≤10:=by rw [List.length_take,List.length_range];omega
    have ht1:t.1.length≤10:=by rw [ht];simp only [List.nil_append,List.length_map];omega
    have ht2:t.2.length≤10:=by rw [ht];simp only [List.nil_append,List.length_map];omega
    unfold qf
    simp only []
    have hbit:=ZL hb (i:=i) (by omega)
    cases hs:Rf .i64 (b:Int) (i:Int) with
    | none=>rw [hs] at hbit;cases hbit
    | some v5 =>
      rw [hs,bS] at hbit
      rw [bH,dT (by omega),lN,Dq hi,bS,bS,Option.some.inj hbit]
      cases b.testBit i with
      | true=>rw [lN,lN,DU (by simp only [List.length_singleton];omega),bS,DU (by simp only [List.length_singleton];omega),bS,nY (by omega)]
      | false=>rw [lM,lM,nY (by omega)]
  · unfold qf
    simp only [List.length_range]
    rw [bH,dF (by omega),lM]
theorem Ro {b:Nat} {x:aA} (h:x ∈ yA p b):x ∈ p.ax:=by
 unfold yA at h
 obtain ⟨i,hi,rfl⟩:=List.mem_map.1 h
 rw [En (MJ hi)]
 exact List.getElem_mem _
theorem Rq {b:Nat}:(yA p b).length≤p.ax.length:=by
 unfold yA;rw [List.length_map];exact Kr
include hp hN hn in
theorem Wq:bZ (qc N p ((2 ^ p.ax.length:Nat):Int)) N ([],0)=some (F6 p):=by
 have hlim:lim ≥ 10000000:=by decide
 have h10:=pow10 hn
 rw [EL (f:=qc N p ((2 ^ p.ax.length:Nat):Int)) (List.range (2 ^ p.ax.length)) [] (fun b=>Cb p (yA p b)) (fun b=>(wU p.ax.length b).map fun (i:Nat)=>(i:Int)) (fun a i=>(a,i)) (fun a=>a) (fun j hj acc hacc=>?_) (fun acc=>?_) (by rw [List.length_range];omega)]
 ·rfl
 ·rw [List.length_range] at hj hacc
  rw [List.getElem_range]
  unfold qc
  simp only []
  rw [bH,dT (by omega),lN,Um hN hn (by omega),bS]
  simp only []
  rw [PO hp (Nat.lt_of_le_of_lt Rq (by omega)) (fun x hx=>hp.l x (Ro hx)) hN,bS]
  simp only [List.length_nil] at hacc
  cases Cb p (yA p j) with
  | true=>rw [lN,lN,DU (by simp only [List.length_singleton];omega),bS,nY (by omega)]
  | false=>rw [lM,lM,nY (by omega)]
 ·unfold qc
  simp only [List.length_range]
  rw [bH,dF (by omega),lM]
include hp hN hn in
theorem SS:vC N p=some (sQ p):=by
 have h10:=pow10 hn
 have h64:V7 .i64 1 (p.ax.length:Int)=some ((2 ^ p.ax.length:Nat):Int):=by
  unfold V7
  rw [if_neg (by omega)]
  have:min (p.ax.length:Int).toNat IntKind.i64.bits=p.ax.length:=by
   show min (p.ax.length:Int).toNat 64=_
   omega
  rw [this,Int.one_mul,show (2:Int) ^ p.ax.length=((2 ^ p.ax.length:Nat):Int) from (Int.natCast_pow 2 _).symm]
  generalize 2 ^ p.ax.length=q at h10
  rw [XW (by omega) (by omega)]
 unfold vC
 rw [h64,bS,Wq hp hN hn,bS]
 have hcmp:∀ x ∈ F6 p,∀ y ∈ F6 p,lm N x y=some (Ii x y):=fun x hx y hy=>by
  have h1:=(Dn hx).1
  have h2:=(Dn hy).1
  exact Ul (by omega) (by omega) hN
 have hs:Dk (fun y0 y1=>lm N y0 y1) (F6 p):=Uf hcmp Ui Uj Rn
 have hl:=PN (p:=p)
 have e:oK N (F6 p) (fun y0 y1=>lm N y0 y1)=some (sQ p):=by
  unfold oK
  rw [Rh hs (by omega)]
  congr 1
  exact GU _ fun x hx y hy=>by
   show (match lm N x y with | some n=>decide (n<0) | none=>false)=_
   rw [hcmp x hx y hy];rfl
 rw [e];rfl
end
end Go.KB
namespace Go.KB
set_option linter.unusedVariables false
theorem NY {α:Type} {l:List α} {N:Nat} {f:(Bool×Int)→Option ((Bool×Int) ⊕ Bool)} {g:α→Bool} (hf:∀ (i:Nat) (h:i<l.length) (b:Bool),f (b,(i:Int))=some (.inl (b||g l[i],((i+1:Nat):Int)))) (he:∀ b,f (b,(l.length:Int))=some (.inr b)) (hN:l.length<N):bZ f N (false,0)=some (l.any g):=by
 rw [F7 (f:=f) l false (fun b x=>b||g x) (fun b i=>(b,i)) (fun b=>b) (fun i hi t _=>hf i hi t) he hN]
 congr 1
 have:∀ (l:List α) (b:Bool),l.foldl (fun b x=>b||g x) b=(b||l.any g):=by
  intro l
  induction l with
  | nil=>intro b;simp
  | cons x l ih=>intro b;rw [List.foldl_cons,ih,List.any_cons,Bool.or_assoc]
 rw [this];rfl
theorem Ua {N:Nat} {a b:List Str} (ha:a.length<1000000) (hN:1000000≤N):uQ N a b=some (decide (a=b)):=by
  unfold uQ
  rw [rJ]
  by_cases h:a.length=b.length
  · rw [dT (by omega), Bool.not_true, lM]
    have h3:bZ (rU N a b) N 0=some (bif (List.range a.length).all (fun i=>decide (a[i]! = b[i]!)) then Sum.inl () else Sum.inr false):=by
      refine MK (fun i hi=>?_) ?_ (by omega)
      · have hi2 : i < b.length := by omega
        unfold rU
        rw [bH,dT (by omega),lN,Dq hi,bS,Dq hi2,bS,PS,nY (by omega)]
        cases decide (a[i]! = b[i]!) <;> rfl
      · unfold rU
        rw [bH,dF (by omega),lM]
    rw [h3,bS]
    have e:decide (a=b)=(List.range a.length).all (fun i=>decide (a[i]! = b[i]!)):=by
      rw [Bool.eq_iff_iff,decide_eq_true_eq,List.all_eq_true]
      constructor
      · rintro rfl i hi;rw [decide_eq_true_eq]
      · intro hq
        refine List.ext_getElem h fun i h1 h2=>?_
        have:=hq i (List.mem_range.2 h1)
        rw [decide_eq_true_eq,En h1,En h2] at this
        exact this
    rw [e]
    cases (List.range a.length).all (fun i=>decide (a[i]! = b[i]!)) <;> rfl
  · rw [dF (by omega),Bool.not_false,lN,dF (fun e=>h (by rw [e]))]
def Ub (a b:List Str):Bool:=b.all fun s=>a.any fun t=>decide (t=s)
theorem contains_eq {N:Nat} {a b:List Str} (ha:a.length<1000000) (hb:b.length<1000000) (hN:1000000≤N):uq N a b=some (Ub a b):=by
 unfold uq
 have h2:bZ (pF N a b) N 0=some (bif Ub a b then Sum.inl () else Sum.inr false):=by
  refine EM (fun i hi=>?_) ?_ (by omega)
  ·unfold pF
   have h1:bZ (pG N a b (i:Int)) N (false,0)=some (a.any fun t=>decide (t=b[i])):=by
    refine NY (fun j hj c=>?_) (fun c=>?_) (by omega)
    ·unfold pG
     simp only []
     rw [bH,dT (by omega),lN,nY (by omega)]
     cases c with
     | true=>rfl
     | false=>simp only [Bool.not_false,lN];rw [ig hj,bS,ig hi,bS,qN]
    ·unfold pG
     simp only []
     rw [bH,dF (by omega),lM]
   rw [bH,dT (by omega),lN,h1,bS,nY (by omega)]
   cases a.any fun t=>decide (t=b[i]) <;> rfl
  ·unfold pF
   rw [bH,dF (by omega),lM]
 rw [h2,bS]
 cases Ub a b <;> rfl
theorem Un {N:Nat} {l:List (List Int)} {f:List Int→Option Bool} {g:List Int→Bool} (hf:∀ y ∈ l,f y=some (g y)) (hl:l.length<1000000) (hN:1000000≤N):kG N l f=some (l.any g):=by
 unfold kG nR
 have h:((bZ (jA N l f) N 0).bind fun o6=>Sum.elim (fun l8=>some (-1)) (fun r9=>some r9) o6)=some (Ik g l):=by
  refine uJ (fun i hi=>?_) ?_ (by omega)
  ·unfold jA
   rw [bH,dT (by omega),lN,ig hi,bS,hf _ (List.getElem_mem hi),bS,nY (by omega)]
  ·unfold jA
   rw [bH,dF (by omega),lM]
 rw [h,bS,N9]
theorem Uo {N:Nat} {l:List Int} {f:Int→Option Bool} {g:Int→Bool} (hf:∀ y ∈ l,f y=some (g y)) (hl:l.length<1000000) (hN:1000000≤N):kS N l f=some (l.any g):=by
 unfold kS oZ
 have h:((bZ (jP N l f) N 0).bind fun o6=>Sum.elim (fun l8=>some (-1)) (fun r9=>some r9) o6)=some (Ik g l):=by
  refine uJ (fun i hi=>?_) ?_ (by omega)
  ·unfold jP
   rw [bH,dT (by omega),lN,ig hi,bS,hf _ (List.getElem_mem hi),bS,nY (by omega)]
  ·unfold jP
   rw [bH,dF (by omega),lM]
 rw [h,bS,N9]
def N8 (p:GPermitPlan) (a:List Int):List Str:=a.map fun i=>p.ax[i.toNat]!.Name
def A7 (a b:List Int):Bool:=decide (a.length<b.length)&&a.all (fun i=>b.contains i)
def Eh (p:GPermitPlan):List (List Int):=(sQ p).filter fun a=>!(sQ p).any (A7 a)
section
variable {N:Nat} {p:GPermitPlan} (hp:Fa p) (hN:1000000≤N) (hn:p.ax.length≤10)
theorem Ko (hn:p.ax.length≤10):(sQ p).length≤1024:=by
 have h1:(sQ p).length=(F6 p).length:=(vY _ _).length_eq
 have h2:=PN (p:=p)
 have h3:=pow10 hn
 omega
include hN hn in
theorem PU {l:List (List Int)} (hl:l.length<1000000) (hm:∀ a ∈ l,a ∈ F6 p):um N p l=some (l.map (N8 p)):=by
 have hlim:lim ≥ 10000000:=by decide
 unfold um
 rw [EL (f:=qB N p l) l [] (fun _=>true) (N8 p) (fun a i=>(a,i)) (fun a=>a) (fun j hj acc hacc=>?_) (fun acc=>?_) (by omega)]
 ·rw [List.filter_eq_self.2 (fun _ _=>rfl)];rfl
 ·simp only [List.length_nil] at hacc
  obtain ⟨h1,h2⟩:=Dn (hm _ (List.getElem_mem hj))
  have h3:bZ (oW N p l[j]) N ([],0)=some (N8 p l[j]):=by
   rw [EL (f:=oW N p l[j]) l[j] [] (fun _=>true) (fun i=>p.ax[i.toNat]!.Name) (fun a i=>(a,i)) (fun a=>a) (fun k hk acc hacc=>?_) (fun acc=>?_) (by omega)]
   ·rw [List.filter_eq_self.2 (fun _ _=>rfl)];rfl
   ·simp only [List.length_nil] at hacc
    obtain ⟨m,h4,h5⟩:=h2 _ (List.getElem_mem hk)
    unfold oW
    simp only []
    rw [bH,dT (by omega),lN,ig hk,bS,h4,Dq h5,bS,DU (by simp only [List.length_singleton];omega),bS,nY (by omega)];rfl
   ·unfold oW
    simp only []
    rw [bH,dF (by omega),lM]
  unfold qB
  simp only []
  rw [bH,dT (by omega),lN,ig hj,bS,h3,bS,DU (by simp only [List.length_singleton];omega),bS,nY (by omega)];rfl
 ·unfold qB
  simp only []
  rw [bH,dF (by omega),lM]
include hp hN in
theorem ML:uh N p=some (if qm p≠0 then qm p else if 10<p.ax.length then 8 else 0):=by
  unfold uh
  rw [GV hp hN,bS,rJ,qo]
  by_cases h:qm p=0
  · rw [dT h, if_neg (fun e => e h), Bool.not_true, lM]
    by_cases h2:10<p.ax.length
    · rw [dT (by omega),if_pos h2];rfl
    · rw [dF (by omega),if_neg h2];rfl
  · rw [dF h,if_pos h];rfl
include hp hN hn in
theorem N7 (hc:qm p=0):rq N p=some ((sQ p).map (N8 p),0):=by
 have hl:=Ko hn
 unfold rq
 rw [ML hp hN,if_neg (fun e=>e hc),if_neg (by omega),bS,rJ,dT rfl,Bool.not_true,lM,SS hp hN hn,bS,PU hN hn (by omega) (fun a ha=>yx.1 ha),bS]
include hp hN hn in
theorem Ri (hc:qm p=0):uo N p=some ((Eh p).map (N8 p),0):=by
  have hlim:lim ≥ 10000000:=by decide
  have hl:=Ko hn
  unfold uo
  rw [ML hp hN,if_neg (fun e=>e hc),if_neg (by omega),bS,rJ,dT rfl,Bool.not_true,lM,SS hp hN hn,bS]
  have h1:bZ (ng N (sQ p)) N ([],0)=some (Eh p):=by
    rw [EL (f:=ng N (sQ p)) (sQ p) [] (fun a=>!(sQ p).any (A7 a)) (fun a=>a) (fun a i=>(a,i)) (fun a=>a) (fun j hj acc hacc=>?_) (fun acc=>?_) (by omega)]
    · simp [Eh]
    · simp only [List.length_nil] at hacc
      have hw:∀ y ∈ sQ p,qg N y (sQ p)[j]=some (A7 (sQ p)[j] y):=fun y hy=>by
        have h3:=(Dn (yx.1 hy)).1
        have h4:=(Dn (yx.1 (List.getElem_mem hj))).1
        unfold qg A7
        rw [qo]
        by_cases hlt:(sQ p)[j].length<y.length
        · rw [dT (by omega), dT hlt, lN, Uo (g := fun i => !y.contains i) (fun i _ => by unfold qp; rw [GX (by omega) hN]; rfl) (by omega) hN, bS, Bool.true_and, Bool.true_and]
          congr 1
          rw [List.not_any_eq_all_not];simp only [Bool.not_not]
        · rw [dF (by omega),dF hlt];rfl
      unfold ng
      simp only []
      rw [bH,dT (by omega),lN,ig hj,bS,Un hw (by omega) hN,bS]
      cases (sQ p).any (A7 (sQ p)[j]) with
      | true=>simp only [Bool.not_true,lM];rw [nY (by omega)]
      | false=>simp only [Bool.not_false,lN];rw [DU (by simp only [List.length_singleton];omega),bS,nY (by omega)]
    · unfold ng
      simp only []
      rw [bH,dF (by omega),lM]
  have h2:(Eh p).length≤(sQ p).length:=List.length_filter_le _ _
  rw [h1,bS,PU hN hn (l:=Eh p) (by omega) (fun a ha=>yx.1 (List.mem_filter.1 ha).1),bS]
end
theorem XY (n:Nat):∀ φ:Nat→Bool,∃ b,b<2 ^ n∧∀ i,i<n→b.testBit i=φ i:=by
 induction n with
 | zero=>exact fun φ=>⟨0,by decide,fun i hi=>by omega⟩
 | succ n ih =>
  intro φ
  obtain ⟨b,h1,h2⟩:=ih fun i=>φ (i+1)
  refine ⟨2 * b+(bif φ 0 then 1 else 0),?_,fun i hi=>?_⟩
  ·rw [Nat.pow_succ];cases φ 0 <;> simp only [lN,lM] <;> omega
  ·cases i with
   | zero =>
    rw [Nat.testBit_zero]
    cases φ 0 with
    | true=>simp only [lN,decide_eq_true_eq];omega
    | false=>simp only [lM,decide_eq_false_iff_not];omega
   | succ i =>
    rw [Nat.testBit_succ,show (2 * b+(bif φ 0 then 1 else 0)) / 2=b by cases φ 0 <;> simp only [lN,lM] <;> omega]
    exact h2 i (by omega)
theorem Kt {α : Type} [Inhabited α] (f : α → Bool) : ∀ l : List α, ((List.range l.length).filter fun i => f l[i]!).map (fun i => l[i]!) = l.filter f
  | []=>rfl
  | x :: l=>by
    have ih:=Kt f l
    rw [List.length_cons,List.range_succ_eq_map,List.filter_cons,List.filter_map,List.filter_cons]
    have e:((fun i=>f (x :: l)[i]!) ∘ Nat.succ)=fun i=>f l[i]!:=by funext i;simp
    rw [e]
    have e0:(x :: l)[0]! = x:=rfl
    have e2:∀ m:List Nat,(m.map Nat.succ).map (fun i=>(x :: l)[i]!)=m.map fun i=>l[i]!:=fun m=>by rw [List.map_map];refine List.map_congr_left fun i _=>?_;simp
    cases hf:f x with
    | true=>rw [e0,if_pos hf,if_pos rfl,List.map_cons,e0,e2,ih]
    | false=>rw [e0,hf,if_neg (by decide),if_neg (by decide),e2,ih]
theorem XZ {p:GPermitPlan} {φ:aA→Bool} (h:Cb p (p.ax.filter φ)=true):∃ a ∈ sQ p,N8 p a=(p.ax.filter φ).map fun x=>x.Name:=by
 obtain ⟨b,h1,h2⟩:=XY p.ax.length fun i=>φ p.ax[i]!
 have e:wU p.ax.length b=(List.range p.ax.length).filter fun i=>φ p.ax[i]!:=by
  unfold wU
  exact List.filter_congr fun i hi=>h2 i (List.mem_range.1 hi)
 have e2:yA p b=p.ax.filter φ:=by
  unfold yA
  rw [e];exact Kt φ p.ax
 refine ⟨_,yx.2 (Wp h1 (by rw [e2];exact h)),?_⟩
 rw [← e2]
 unfold N8 yA
 rw [List.map_map,List.map_map]
 exact List.map_congr_left fun i _=>by simp
theorem XT {p:GPermitPlan} (ho:IU p) {A:AO} (hi:Lp p A):∃ a ∈ sQ p,N8 p a=lI p A fun _=>true:=by
 refine XZ (φ:=fun x=>decide (stA A x.Name=2)&&true) ?_
 have:=Ud ho hi (so:=fun _=>true) (fun _ _ _ _ _ _=>rfl)
 have e:(lI p A fun _=>true).map (qH p)=p.ax.filter fun x=>decide (stA A x.Name=2)&&true:=by
  unfold lI
  rw [List.map_map]
  have:∀ l:List aA,(∀ x ∈ l,x ∈ p.ax)→l.map (qH p ∘ fun x=>x.Name)=l:=fun l hl=>by
   have h2:l.map (fun x=>qH p x.Name)=l.map id:=List.map_congr_left fun x hx=>ho.Em (hl x hx)
   show l.map (fun x=>qH p x.Name)=l
   rw [h2,List.map_id]
  exact this _ fun x hx=>(List.mem_filter.1 hx).1
 rw [e] at this;exact this
theorem Ur {p:GPermitPlan}:∀ (k:Nat) (a:List Int),a ∈ sQ p→p.ax.length≤a.length+k→∃ m ∈ Eh p,∀ i ∈ a,i ∈ m:=by
 intro k
 induction k with
 | zero =>
  intro a ha hk
  refine ⟨a,List.mem_filter.2 ⟨ha,?_⟩,fun i hi=>hi⟩
  rw [Bool.not_eq_true',List.any_eq_false]
  intro b hb
  have:=(Dn (yx.1 hb)).1
  unfold A7
  rw [dF (by omega),Bool.false_and];decide
 | succ k ih =>
  intro a ha hk
  cases h:(sQ p).any (A7 a) with
  | false=>exact ⟨a,List.mem_filter.2 ⟨ha,by rw [h];rfl⟩,fun i hi=>hi⟩
  | true =>
   obtain ⟨b,hb,hw⟩:=List.any_eq_true.1 h
   unfold A7 at hw
   rw [Bool.and_eq_true,decide_eq_true_eq,List.all_eq_true] at hw
   obtain ⟨m,hm,hs⟩:=ih b hb (by omega)
   exact ⟨m,hm,fun i hi=>hs i (List.contains_iff_mem.1 (hw.2 i hi))⟩
theorem Rk {p:GPermitPlan} {a:List Int} (ha:a ∈ sQ p):∃ m ∈ Eh p,Ub (N8 p m) (N8 p a)=true:=by
 obtain ⟨m,hm,h⟩:=Ur p.ax.length a ha (by omega)
 refine ⟨m,hm,?_⟩
 unfold Ub
 rw [List.all_eq_true]
 intro s hs
 unfold N8 at hs
 obtain ⟨i,hi,rfl⟩:=List.mem_map.1 hs
 rw [List.any_eq_true]
 exact ⟨_,List.mem_map.2 ⟨i,h i hi,rfl⟩,by rw [decide_eq_true_eq]⟩
end Go.KB
