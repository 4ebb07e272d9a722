/- Plain laws of chapter 7: what a valid plan is, nearness, exclusion, needs. Plain laws of chapter 7: loops that filter, find and delete. Plain laws of chapter 7: near and needs of the program. Plain laws of chapter 7: what an office does, by names. No condition. -/
import Derived.Test.YtalkbgomndhkmaaGreatPZl
namespace Go.KB
set_option linter.unusedVariables false
def Ik (l:List Str) (s:Str):Bool:=l.any (fun x=>decide (s=x))
theorem Uk {l:List Str} {s:Str}:Ik l s=true↔s ∈ l:=by
 unfold Ik;rw [List.any_eq_true]
 constructor
 ·rintro ⟨x,h1,h2⟩;rw [decide_eq_true_eq] at h2;rw [h2];exact h1
 ·intro h;exact ⟨s,h,by simp⟩
theorem XL {p:GPermitPlan} {s:Str}:xg p s=true↔∃ y ∈ p.bF,y.Name=s:=by
 unfold xg;rw [List.any_eq_true];simp [isS]
theorem uN {p:GPermitPlan} {s:Str}:iU p s=true↔∃ y ∈ p.ai,y.Name=s:=by
 unfold iU;rw [List.any_eq_true];simp [FW]
theorem L8 {α:Type} {z:α} {g:α→Bool} {l:List α} (h:l.any g=true):(yu z g l).1 ∈ l∧g (yu z g l).1=true:=by
 unfold yu
 cases h2:l.find? g with
 | none=>rw [List.any_eq_true] at h;obtain ⟨x,hx,hg⟩:=h;exact absurd hg (by simpa using List.find?_eq_none.1 h2 x hx)
 | some y=>exact ⟨List.mem_of_find?_eq_some h2,List.find?_some h2⟩
theorem QM {p:GPermitPlan} {s:Str} (h:xg p s=true):yA p s ∈ p.bF∧(yA p s).Name=s:=by
 have:=L8 (z:=(⟨[],false,[]⟩:dh)) h
 exact ⟨this.1,of_decide_eq_true this.2⟩
theorem nN {p:GPermitPlan} {s:Str} (h:iU p s=true):nR p s ∈ p.ai∧(nR p s).Name=s:=by
 have:=L8 (z:=(⟨[],0,[],0,0,[]⟩:aA)) h
 exact ⟨this.1,of_decide_eq_true this.2⟩
structure FB (p:GPermitPlan):Prop where
 ns:p.bF.length≤30
 ne:p.cZ.length≤30
 np:p.ai.length≤20
 gm:1≤p.dw∧p.dw≤10000
 sn:∀ y ∈ p.bF,kJ y.Name=true
 sd:∀ i j,i<p.bF.length→j<p.bF.length→p.bF[i]!.Name=p.bF[j]!.Name→i=j
 nx:∀ y ∈ p.bF,∀ n ∈ y.Next,xg p n=true∧n≠y.Name
 xk:∀ e ∈ p.cZ,yw e.A=true∧yw e.B=true∧0≤e.Reach∧e.Reach≤2
 pn:∀ y ∈ p.ai,kJ y.Name=true
 pd:∀ i j,i<p.ai.length→j<p.ai.length→p.ai[i]!.Name=p.ai[j]!.Name→i=j
 pk:∀ y ∈ p.ai,yw y.Kind=true∧0≤y.From∧y.From<y.To∧y.To≤1000000∧xg p y.Space=true
 lk:∀ y ∈ p.ai,∀ l ∈ y.Locks,iU p l=true∧(nR p l).Kind=5∧y.Kind≠5
theorem JA {a b:Int} (h:EX a b=0):a=0∧b=0:=by
 unfold EX at h
 by_cases h0:a=0
 ·rw [if_pos h0] at h;exact ⟨h0,h⟩
 ·rw [if_neg h0] at h;exact absurd h h0
theorem BO {α:Type} [Inhabited α] {l:List α} {e:Nat→Int} {y:α} (h:dZ e l.length 0=0) (hy:y ∈ l):∃ i,i<l.length∧l[i]! = y∧e i=0:=by
 obtain ⟨i,hi,rfl⟩:=List.getElem_of_mem hy
 exact ⟨i,hi,wC hi,tX h i (by omega) (by omega)⟩
theorem Us {nm:Nat→Str} {n:Nat} (h:∀ i,i<n→dup nm i (nm i)=false):∀ i j,i<n→j<n→nm i=nm j→i=j:=by
 have key:∀ i j,i<j→j<n→nm i≠nm j:=fun i j hij hj he=>by
  have:=(O8 nm (nm j) j).2 ⟨i,hij,he⟩
  rw [h j hj] at this;cases this
 intro i j hi hj he
 rcases Nat.lt_trichotomy i j with h1 | h1 | h1
 ·exact absurd he (key i j h1 hj)
 ·exact h1
 ·exact absurd he.symm (key j i h1 hi)
theorem eSp0 {p:GPermitPlan} {i:Nat} (h:VL p i=0):kJ (Il p i)=true∧dup (Il p) i (Il p i)=false:=by
 unfold VL at h
 split at h
 ·cases h
 ·rename_i h1
  split at h
  ·cases h
  ·rename_i h2;exact ⟨by simpa using h1,by simpa using h2⟩
theorem ePm0 {p:GPermitPlan} {i:Nat} (h:Yn p i=0):kJ (Eu p i)=true∧dup (Eu p) i (Eu p i)=false∧yw p.ai[i]!.Kind=true∧0≤p.ai[i]!.From∧p.ai[i]!.From<p.ai[i]!.To∧p.ai[i]!.To≤1000000∧xg p p.ai[i]!.Space=true:=by
 unfold Yn at h
 split at h
 ·cases h
 ·rename_i h1
  split at h
  ·cases h
  ·rename_i h2
   split at h
   ·cases h
   ·rename_i h3
    split at h
    ·cases h
    ·rename_i h4
     simp only [not_or] at h3
     refine ⟨by simpa using h1,by simpa using h2,by simpa using h3.1,by omega,by omega,by omega,by simpa using h4⟩
theorem okP {p:GPermitPlan} (h:lV p=0):FB p:=by
 unfold lV at h
 split at h
 ·cases h
 rename_i hb
 split at h
 ·cases h
 rename_i hg
 obtain ⟨h1,h2⟩:=JA h
 obtain ⟨h1,h3⟩:=JA h1
 obtain ⟨h4,h5⟩:=JA h2
 obtain ⟨h5,h6⟩:=JA h5
 refine ⟨by omega,by omega,by omega,by omega,?_,?_,?_,?_,?_,?_,?_,?_⟩
 ·intro y hy;obtain ⟨i,hi,rfl,he⟩:=BO h1 hy;exact (eSp0 he).1
 ·exact Us (nm:=Il p) fun i hi=>(eSp0 (tX h1 i (by omega) (by omega))).2
 ·intro y hy n hn
  obtain ⟨i,hi,rfl,he⟩:=BO h3 hy
  obtain ⟨j,hj,rfl,he⟩:=BO he hn
  unfold eNx at he
  split at he
  ·cases he
  ·rename_i a
   split at he
   ·cases he
   ·rename_i b;exact ⟨by simpa using a,b⟩
 ·intro y hy
  obtain ⟨i,hi,rfl,he⟩:=BO h4 hy
  unfold eEx at he
  split at he
  ·cases he
  ·rename_i a;simp only [not_or] at a;exact ⟨by simpa using a.1,by simpa using a.2.1,by omega,by omega⟩
 ·intro y hy;obtain ⟨i,hi,rfl,he⟩:=BO h5 hy;exact (ePm0 he).1
 ·exact Us (nm:=Eu p) fun i hi=>(ePm0 (tX h5 i (by omega) (by omega))).2.1
 ·intro y hy;obtain ⟨i,hi,rfl,he⟩:=BO h5 hy;exact (ePm0 he).2.2
 ·intro y hy n hn
  obtain ⟨i,hi,rfl,he⟩:=BO h6 hy
  obtain ⟨j,hj,rfl,he⟩:=BO he hn
  unfold eLk at he
  split at he
  ·cases he
  ·rename_i a
   split at he
   ·cases he
   ·rename_i b;simp only [not_or] at b;exact ⟨by simpa using a,by simpa using b.1,b.2⟩
theorem FB.sm {p:GPermitPlan} {N:Nat} (hp:Eh p):Eh p:=hp
theorem FB.xH {p:GPermitPlan} (h:FB p) {x:aA} (hx:x ∈ p.ai):nR p x.Name=x:=by
 have h1:iU p x.Name=true:=uN.2 ⟨x,hx,rfl⟩
 obtain ⟨h2,h3⟩:=nN h1
 obtain ⟨i,hi,he⟩:=List.getElem_of_mem h2
 obtain ⟨j,hj,hf⟩:=List.getElem_of_mem hx
 have:=h.pd i j hi hj (by rw [wC hi,wC hj,he,hf,h3])
 subst this
 rw [← he,hf]
def pK (p:GPermitPlan) (a b:Str):Int:=if a=b then 0 else bif Ik (yA p a).Next b||Ik (yA p b).Next a then 1 else 2
theorem Td (p:GPermitPlan) (a b:Str):pK p a b=pK p b a:=by
 unfold pK
 by_cases h:a=b
 ·subst h;rfl
 ·rw [if_neg h,if_neg (fun x=>h x.symm),Bool.or_comm]
def exE (e:bJ) (d k m:Int):Bool:=decide (d≤e.Reach)&&((decide (e.A=k)&&decide (e.B=m))||(decide (e.A=m)&&decide (e.B=k)))
theorem XW (e:bJ) (d k m:Int):exE e d k m=exE e d m k:=by unfold exE;rw [Bool.or_comm]
def oW (p:GPermitPlan) (x y:aA):Bool:=bif decide (x.Name=y.Name) then false else p.cZ.any (fun e=>exE e (pK p x.Space y.Space) x.Kind y.Kind)
theorem DW (p:GPermitPlan) (x y:aA):oW p x y=oW p y x:=by
 unfold oW
 rw [Td p y.Space x.Space,show decide (y.Name=x.Name)=decide (x.Name=y.Name) from decide_eq_decide.2 ⟨Eq.symm,Eq.symm⟩]
 congr 2
 funext e
 exact XW ..
theorem LC (p:GPermitPlan) (x:aA):oW p x x=false:=by unfold oW;simp
def Ej (x:aA):Bool:=decide (x.Kind=0)||(decide (x.Kind=1)||decide (x.Kind=2))
def C9 (p:GPermitPlan) (x:aA):List Str:=(bif Ej x&&(yA p x.Space).dS then [(yA p x.Space).Name] else []) ++ (bif decide (x.Kind=0) then (p.bF.filter (fun s=>s.dS&&decide (pK p s.Name (yA p x.Space).Name=1))).map (fun s=>s.Name) else [])
end Go.KB
namespace Go.KB
set_option linter.unusedVariables false
theorem Cc {α:Type} {xs ys:List α} (h:xs.length+ys.length≤lim):app xs ys=some (xs ++ ys):=by
 unfold app;rw [Nat.ble_eq_true_of_le h];rfl
theorem Jh {S O:Type} {n N:Nat} {f:S→Option (S ⊕ O)} (g:Nat→S) (r:O) (h:∀ i:Nat,i<n→f (g i)=some (.inl (g (i+1)))) (he:f (g n)=some (.inr r)) (hN:n<N):bW f N (g 0)=some r:=by
 have key:∀ k i,i+k=n→∀ M,k<M→bW f M (g i)=some r:=by
  intro k
  induction k with
  | zero =>
   intro i hi M hM
   obtain ⟨M,rfl⟩:∃ m,M=m+1:=⟨M - 1,by omega⟩
   have:i=n:=by omega
   subst this
   simp only [bW,he]
  | succ k ih =>
   intro i hi M hM
   obtain ⟨M,rfl⟩:∃ m,M=m+1:=⟨M - 1,by omega⟩
   simp only [bW,h i (by omega)]
   exact ih (i+1) (by omega) M (by omega)
 exact key n 0 (by omega) N (by omega)
theorem Gw {S O α T:Type} {N:Nat} {f:S→Option (S ⊕ O)} (l:List α) (t0:T) (stp:T→α→T) (mk:T→Int→S) (out:T→O) (hf:∀ (i:Nat) (hi:i<l.length) (t:T),t=(l.take i).foldl stp t0→f (mk t (i:Int))=some (.inl (mk (stp t l[i]) ((i+1:Nat):Int)))) (he:∀ t,f (mk t (l.length:Int))=some (.inr (out t))) (hN:l.length<N):bW f N (mk t0 0)=some (out (l.foldl stp t0)):=by
 refine Jh (n:=l.length) (fun i=>mk ((l.take i).foldl stp t0) (i:Int)) _ (fun i hi=>?_) ?_ hN
 ·rw [hf i hi _ rfl,List.take_succ_eq_append_getElem hi,List.foldl_append];rfl
 ·rw [List.take_length];exact he _
theorem foldl_filter {α β : Type} (g : α → Bool) (h : α → β) : ∀ (l : List α) (a : List β), l.foldl (fun acc x => bif g x then acc ++ [h x] else acc) a = a ++ (l.filter g).map h
  | [],a=>by simp
  | x :: r,a=>by
    simp only [List.foldl_cons,foldl_filter g h r,List.filter_cons]
    cases g x <;> simp
theorem Vw {α β:Type} (g:α→Bool) (h:α→β):∀ (l:List α) (a:List β),(l.foldl (fun acc x=>bif g x then acc ++ [h x] else acc) a).length≤a.length+l.length:=fun l a=>by
 rw [foldl_filter,List.length_append,List.length_map]
 have:=List.length_filter_le g l
 omega
theorem Ia {S O α β:Type} {N:Nat} {f:S→Option (S ⊕ O)} (l:List α) (a:List β) (g:α→Bool) (h:α→β) (mk:List β→Int→S) (out:List β→O) (hf:∀ (i:Nat) (hi:i<l.length) (acc:List β),acc.length≤a.length+l.length→f (mk acc (i:Int))=some (.inl (mk (bif g l[i] then acc ++ [h l[i]] else acc) ((i+1:Nat):Int)))) (he:∀ t,f (mk t (l.length:Int))=some (.inr (out t))) (hN:l.length<N):bW f N (mk a 0)=some (out (a ++ (l.filter g).map h)):=by
 rw [Gw (f:=f) l a (fun acc x=>bif g x then acc ++ [h x] else acc) mk out (fun i hi t ht=>?_) he hN,foldl_filter]
 refine hf i hi t ?_
 rw [ht]
 have:=Vw g h (l.take i) a
 rw [List.length_take] at this
 omega
theorem O3 {α:Type} {l:List α} {a b:Nat} (h:a≤b) (hb:b≤l.length):Qn l (a:Int) (b:Int)=some ((l.take b).drop a):=by
 unfold Qn
 rw [dT (by omega),dT (by omega),dT (by omega)];rfl
theorem XY {N:Nat} {f:(List Str×Int×Int)→Option ((List Str×Int×Int) ⊕ (List Str×Int))} {l:List Str} {g:Str→Bool} (hf:∀ (xs:List Str) (i j:Nat),(hj:j<xs.length)→i≤j→j<1000000→xs[j] ∈ l→f (xs,(i:Int),(j:Int))=bif !g xs[j] then some (.inl (xs.set i xs[j],((i+1:Nat):Int),((j+1:Nat):Int))) else some (.inl (xs,(i:Int),((j+1:Nat):Int)))) (he:∀ (xs:List Str) (i:Int),f (xs,i,(xs.length:Int))=some (.inr (xs,i))) (hl:l.length<1000000) (hN:1000000≤N) {i0:Nat} (h0:i0<l.length) (hi:l.findIdx g=i0) :
    ∃ xs,bW f N (l,(i0:Int),((i0+1:Nat):Int))=some (xs,((l.filter fun s=>!g s).length:Int))∧xs.length=l.length∧xs.take (l.filter fun s=>!g s).length=l.filter fun s=>!g s:=by
  have key:∀ k i j xs,j+k=l.length→i≤j→xs.length=l.length→xs.take i=(l.take j).filter (fun s=>!g s)→xs.drop j=l.drop j→i=((l.take j).filter (fun s=>!g s)).length→∀ M,k<M →
      ∃ ys,bW f M (xs,(i:Int),(j:Int))=some (ys,((l.filter fun s=>!g s).length:Int))∧ys.length=l.length∧ys.take (l.filter fun s=>!g s).length=l.filter fun s=>!g s:=by
    intro k
    induction k with
    | zero =>
      intro i j xs hj hij hx h1 h2 h3 M hM
      obtain ⟨M,rfl⟩:∃ m,M=m+1:=⟨M - 1,by omega⟩
      have:j=xs.length:=by omega
      subst this
      rw [hx,List.take_length] at h1 h3
      refine ⟨xs,?_,hx,by rw [← h3];exact h1⟩
      simp only [bW,he,h3]
    | succ k ih =>
      intro i j xs hj hij hx h1 h2 h3 M hM
      obtain ⟨M,rfl⟩:∃ m,M=m+1:=⟨M - 1,by omega⟩
      have hjx:j<xs.length:=by omega
      have hjl:j<l.length:=by omega
      have hxj:xs[j]=l[j]:=by
        have:=congrArg (fun l=>l[0]?) h2
        simp only [List.getElem?_drop,Nat.add_zero] at this
        rw [List.getElem?_eq_getElem hjx,List.getElem?_eq_getElem hjl] at this
        exact Option.some.inj this
      have hd:xs.drop (j+1)=l.drop (j+1):=by rw [← List.drop_drop,← List.drop_drop,h2]
      simp only [bW,hf xs i j hjx hij (by omega) (by rw [hxj];exact List.getElem_mem hjl)]
      rw [hxj]
      have htk:(l.take (j+1)).filter (fun s=>!g s)=(l.take j).filter (fun s=>!g s) ++ [l[j]].filter (fun s=>!g s):=by
        rw [List.take_succ_eq_append_getElem hjl,List.filter_append]
      cases hg:g l[j] with
      | false =>
        have hone:[l[j]].filter (fun s=>!g s)=[l[j]]:=by simp [hg]
        rw [hone] at htk
        simp only [Bool.not_false,lJ]
        refine ih (i+1) (j+1) (xs.set i l[j]) (by omega) (by omega) (by simpa using hx) ?_ ?_ ?_ M (by omega)
        · rw [htk, ← h1, List.take_succ_eq_append_getElem (by simp; omega), List.take_set_of_le (Nat.le_refl _)]
          simp
        · rw [List.drop_set_of_lt (by omega)];exact hd
        · rw [htk,List.length_append,← h3];rfl
      | true =>
        have hone:[l[j]].filter (fun s=>!g s)=[]:=by simp [hg]
        rw [hone,List.append_nil] at htk
        simp only [Bool.not_true,kC]
        exact ih i (j+1) xs (by omega) (by omega) hx (by rw [htk];exact h1) hd (by rw [htk];exact h3) M (by omega)
  have hpre:(l.take i0).filter (fun s=>!g s)=l.take i0:=by
    refine List.filter_eq_self.2 fun a ha=>?_
    obtain ⟨j,hj,rfl⟩:=List.getElem_of_mem ha
    rw [List.length_take] at hj
    have:=List.not_of_lt_findIdx (p:=g) (xs:=l) (i:=j) (by omega)
    rw [List.getElem_take]
    simpa using this
  have hat:g l[i0]=true:=by subst hi;exact List.findIdx_getElem
  refine key (l.length - (i0+1)) i0 (i0+1) l (by omega) (by omega) rfl ?_ rfl ?_ N (by omega)
  · rw [List.take_succ_eq_append_getElem h0,List.filter_append,hpre];simp [hat]
  · rw [List.take_succ_eq_append_getElem h0,List.filter_append,hpre];simp [hat];omega
theorem del_eq {N:Nat} {f:(List Str×Int×Int)→Option ((List Str×Int×Int) ⊕ (List Str×Int))} {l:List Str} {g:Str→Bool} (hf:∀ (xs:List Str) (i j:Nat),(hj:j<xs.length)→i≤j→j<1000000→xs[j] ∈ l→f (xs,(i:Int),(j:Int))=bif !g xs[j] then some (.inl (xs.set i xs[j],((i+1:Nat):Int),((j+1:Nat):Int))) else some (.inl (xs,(i:Int),((j+1:Nat):Int)))) (he:∀ (xs:List Str) (i:Int),f (xs,i,(xs.length:Int))=some (.inr (xs,i))) (hl:l.length<1000000) (hN:1000000≤N) :
    (bif (aS .eql (I5 g l) (-1)) then (some l) else ((bW f N (l,I5 g l,(IntKind.i64.wrap (I5 g l+1)))).bind fun o8=>(Qn o8.1 o8.2 (List.length o8.1:Int)).bind fun v10=>(bif Nat.beq ((Int.toNat o8.2)+(Int.toNat (List.length o8.1:Int) - Int.toNat o8.2)) (List.length o8.1) then some (List.take (Int.toNat o8.2) o8.1 ++ List.replicate (Int.toNat (List.length o8.1:Int) - Int.toNat o8.2) []) else none).bind fun v11=>(Qn v11 0 o8.2).bind fun v12=>some v12))=some (l.filter fun s=>!g s):=by
  rw [pW]
  by_cases h:l.findIdx g<l.length
  · rw [BP h, dF (by omega), kC, oG (by omega)]
    obtain ⟨xs,h1,h2,h3⟩:=XY hf he hl hN h rfl
    rw [h1,bS]
    simp only []
    have hk:(l.filter fun s=>!g s).length≤xs.length:=by rw [h2];exact List.length_filter_le _ _
    generalize hkk:(l.filter fun s=>!g s).length=k at h3 hk
    rw [O3 hk (Nat.le_refl _),bS,Int.toNat_natCast,Int.toNat_natCast,show Nat.beq (k+(xs.length - k)) xs.length=true from by rw [Nat.beq_eq];omega,lJ,bS]
    have e0:Qn (List.take k xs ++ List.replicate (xs.length - k) []) 0 (k:Int)=some (((List.take k xs ++ List.replicate (xs.length - k) []).take k).drop 0):=O3 (a:=0) (Nat.zero_le _) (by simp;omega)
    rw [e0,bS,List.drop_zero,List.take_append_of_le_length (by simp;omega),List.take_take,Nat.min_self,h3]
  · rw [D8 h,dT rfl,lJ]
    congr 1
    refine (List.filter_eq_self.2 fun a ha=>?_).symm
    cases hg:g a with
    | false=>rfl
    | true=>exact absurd (List.findIdx_lt_length.2 ⟨a,ha,hg⟩) h
end Go.KB
namespace Go.KB
set_option linter.unusedVariables false
theorem Ic {N:Nat} {l:List Str} {s:Str} (hl:l.length<1000000) (hN:1000000≤N):eY N l s=some (Ik l s):=by
 unfold eY ou
 have h:((bW (jI N l s) N 0).bind fun o5=>Sum.elim (fun l7=>some (-1:Int)) (fun r8=>some r8) o5)=some (I5 (fun x=>decide (s=x)) l):=by
  refine wP (fun i hi=>?_) ?_ (by omega)
  ·unfold jI
   rw [bH,dT (by omega),lJ,iW hi,bS,rQ,oG (by omega)]
  ·unfold jI
   rw [bH,dF (by omega),kC]
 rw [h,bS,xB]
 have:=D7 (g:=fun x=>decide (s=x)) (l:=l)
 unfold Ik
 cases h2:l.any (fun x=>decide (s=x)) with
 | true=>rw [h2] at this;simp at this;rw [dT (by omega)]
 | false=>rw [h2] at this;simp at this;rw [dF (by omega)]
theorem L6 {N:Nat} {l:List Int} {s:Int} (hl:l.length<1000000) (hN:1000000≤N):nM N l s=some (l.contains s):=by
 unfold nM rq
 have h:((bW (lF N l s) N 0).bind fun o5=>Sum.elim (fun l7=>some (-1:Int)) (fun r8=>some r8) o5)=some (I5 (fun x=>decide (s=x)) l):=by
  refine wP (fun i hi=>?_) ?_ (by omega)
  ·unfold lF
   rw [bH,dT (by omega),lJ,iW hi,bS,pW,oG (by omega)]
  ·unfold lF
   rw [bH,dF (by omega),kC]
 rw [h,bS,xB]
 have:=D7 (g:=fun x=>decide (s=x)) (l:=l)
 have e:l.contains s=l.any (fun x=>decide (s=x)):=by
  rw [Bool.eq_iff_iff,List.contains_iff_mem,List.any_eq_true];simp
 rw [e]
 cases h2:l.any (fun x=>decide (s=x)) with
 | true=>rw [h2] at this;simp at this;rw [dT (by omega)]
 | false=>rw [h2] at this;simp at this;rw [dF (by omega)]
theorem Eh.next {p:GPermitPlan} (hp:Eh p) (s:Str):(yA p s).Next.length<1000:=by
 unfold yA yu
 cases h:p.bF.find? (isS s) with
 | none=>simp
 | some y=>exact hp.n y (List.mem_of_find?_eq_some h)
theorem Ig {N:Nat} {p:GPermitPlan} {a b:Str} (hp:Eh p) (hN:1000000≤N):qF N p a b=some (pK p a b):=by
  unfold qF pK
  have hs:=hp.s
  have h1:=hp.next a
  have h2:=hp.next b
  rw [xI (by omega) hN,xI (by omega) hN,bS,bS,rQ]
  by_cases h:a=b
  · rw [dT h,if_pos h];rfl
  · rw [dF h, if_neg h, kC, show eY N (yu _ (isS a) p.bF).1.Next b = _ from Ic (by exact Nat.lt_trans h1 (by decide)) hN, show eY N (yu _ (isS b) p.bF).1.Next a = _ from Ic (by exact Nat.lt_trans h2 (by decide)) hN, bS]
    show ((bif (!Ik (yA p a).Next b) then some (Ik (yA p b).Next a) else some false).bind fun v4=>bif (Ik (yA p a).Next b||v4) then (some (1:Int)) else (some 2))=_
    cases Ik (yA p a).Next b with
    | true=>rfl
    | false=>cases Ik (yA p b).Next a <;> rfl
theorem XR {N:Nat} {p:GPermitPlan} {x:aA} (hp:Eh p) (hN:1000000≤N):vX N p x=some (C9 p x):=by
 unfold vX C9
 have hs:=hp.s
 have hlim:lim ≥ 1000000:=by decide
 rw [xI (by omega) hN,bS]
 have hk:(bif (aS .eql x.Kind 0) then (some (aS .eql x.Kind 0)) else (bif (aS .eql x.Kind 1) then (some (aS .eql x.Kind 1)) else (some (aS .eql x.Kind 2))))=some (Ej x):=by
  unfold Ej
  simp only [pW]
  cases decide (x.Kind=0) <;> cases decide (x.Kind=1) <;> cases decide (x.Kind=2) <;> rfl
 rw [hk,bS]
 have ho:(bif Ej x then (bif (yu (⟨[],false,[]⟩:dh) (isS x.Space) p.bF).1.dS then ((app [] [(yu (⟨[],false,[]⟩:dh) (isS x.Space) p.bF).1.Name]).bind fun v6=>some v6) else (some [])) else (some []))=some (bif Ej x&&(yA p x.Space).dS then [(yA p x.Space).Name] else []):=by
  show (bif Ej x then (bif (yA p x.Space).dS then ((app [] [(yA p x.Space).Name]).bind fun v6=>some v6) else (some [])) else (some []))=_
  rw [Cc (by simp only [List.length_nil,List.length_singleton];omega)]
  cases Ej x <;> cases (yA p x.Space).dS <;> rfl
 rw [ho,bS,pW]
 by_cases h0:x.Kind=0
 ·rw [dT h0,lJ,lJ]
  rw [Ia (f:=qM N p (yu (⟨[],false,[]⟩:dh) (isS x.Space) p.bF)) p.bF _ (fun s=>s.dS&&decide (pK p s.Name (yA p x.Space).Name=1)) (fun s=>s.Name) (fun a i=>(a,i)) (fun a=>a) (fun i hi acc hacc=>?_) (fun acc=>?_) (by omega)]
  ·rfl
  ·have hacc':acc.length≤1+p.bF.length:=by
    refine Nat.le_trans hacc (Nat.add_le_add_right ?_ _)
    cases (Ej x&&(yA p x.Space).dS) <;> simp
   unfold qM
   simp only []
   rw [bH,dT (by omega),lJ,iW hi,bS,Ig hp hN,oG (by omega)]
   show ((bif p.bF[i].dS then some (pK p p.bF[i].Name (yA p x.Space).Name) else some 0).bind fun v13=>_)=_
   cases p.bF[i].dS with
   | false=>rfl
   | true =>
    rw [lJ,bS,Bool.true_and,Bool.true_and,pW]
    cases decide (pK p p.bF[i].Name (yA p x.Space).Name=1) with
    | false=>rfl
    | true=>rw [lJ,Cc (by simp only [List.length_singleton];omega)];rfl
  ·unfold qM
   simp only []
   rw [bH,dF (by omega),kC]
 ·rw [dF h0,kC,kC,List.append_nil]
theorem XQ {p:GPermitPlan} {x:aA} (hp:Eh p):(C9 p x).length<2000:=by
 have hs:=hp.s
 unfold C9
 rw [List.length_append]
 have h1:(bif Ej x&&(yA p x.Space).dS then [(yA p x.Space).Name] else []).length≤1:=by cases (Ej x&&(yA p x.Space).dS) <;> simp
 have h2:(bif decide (x.Kind=0) then (p.bF.filter (fun s=>s.dS&&decide (pK p s.Name (yA p x.Space).Name=1))).map (fun s=>s.Name) else []).length≤p.bF.length:=by
  cases decide (x.Kind=0) with
  | false=>exact Nat.zero_le _
  | true=>rw [lJ,List.length_map];exact List.length_filter_le _ _
 omega
end Go.KB
namespace Go.KB
set_option linter.unusedVariables false
structure AO where
 now:Int
 es:Str→af
 ts:Str→Option aj
 pp:List (Str×Str)
 done:List aU
def stA (A:AO) (s:Str):Int:=(A.es s).state
def NS (A:AO) (n:Str) (e:af):AO:={ A with es:=fun s=>bif decide (s=n) then e else A.es s }
def Ii (A:AO) (n:Str) (k:Int):AO:=NS A n { A.es n with state:=k }
def QH (p:GPermitPlan) (A:AO) (s:Str):Bool:=bif !(yA p s).dS then true else match A.ts s with
 | none=>false
 | some t=>decide (A.now - t.at_≤p.dw)&&decide (195≤t.kz)&&decide (t.kz≤235)&&decide (t.MJ≤50)
def QG (p:GPermitPlan) (A:AO) (s:Str):Bool:=bif !(yA p s).dS then true else match A.ts s with
 | none=>false
 | some t=>decide (A.now - t.at_≤p.dw)&&decide (195≤t.kz)&&decide (t.kz≤235)&&decide (t.MJ≤50)&&decide (t.MJ≤10)
def Ei (p:GPermitPlan) (A:AO) (x:aA) (s:Str):Bool:=bif decide (x.Kind=0) then QG p A s else QH p A s
def BM (p:GPermitPlan) (A:AO) (x:aA):List Str:=(C9 p x).filter fun s=>!Ei p A x s
def Dc (A:AO) (x:aA):List Str:=x.Locks.filter fun s=>!decide (stA A s=2)
def uY (p:GPermitPlan) (A:AO) (x:aA):Bool:=!(BM p A x).isEmpty || !(Dc A x).isEmpty
def wZ (now:Int) (e:af):af:=bif decide (e.state≤3)&&decide (e.yB≤now) then { e with state:=6 } else e
def qg (p:GPermitPlan) (A:AO):AO:={ A with es:=fun s=>bif iU p s then wZ A.now (A.es s) else A.es s }
def uO (p:GPermitPlan) (A:AO):AO:={ A with es:=fun s=>bif iU p s&&decide (stA A s=2)&&uY p A (nR p s) then { A.es s with state:=3 } else A.es s }
def dP (p:GPermitPlan) (A:AO):AO:=uO p (qg p A)
def mr (p:GPermitPlan) (A:AO) (so:aA→Bool):List Str:=(p.ai.filter fun x=>decide (stA A x.Name=2)&&so x).map fun x=>x.Name
def zo (A:AO) (so:Str→Bool):List Str:=(A.pp.filter fun q=>so q.2).map fun q=>q.1
def FQ (p:GPermitPlan) (A:AO) (x:aA):List bP :=
 (bif decide (A.now<x.From) then [(⟨2,[]⟩:bP)] else []) ++
 (([(⟨18,Dc A x⟩:bP),(⟨20,mr p A (fun y=>oW p y x)⟩:bP),(⟨21,BM p A x⟩:bP)] ++ (bif decide (x.Kind=3) then [(⟨17,zo A (fun s=>decide (pK p s x.Space≤1))⟩:bP)] else [])).filter fun r=>!r.Names.isEmpty)
def Ag (p:GPermitPlan) (A:AO) (s:Str):Bool:=!(mr p A (fun y=>decide (y.Kind=1)&&decide (y.Space=s))).isEmpty
def Jf:List (Str×Str)→Str→Str→List (Str×Str)
 | [],n,s=>[(n,s)]
 | q :: r,n,s=>bif decide (q.1<n) then q :: Jf r n s else (n,s) :: q :: r
def uq (A:AO) (e:Int) (l:List Str):AO×List Str×Int:=(A,l,e)
def Bd (A:AO):AO×List Str×Int:=(A,[],0)
def Df (A:AO) (x:aU):AO×List Str×Int:=bif !kJ x.Person then uq A 4 [] else Bd (NS A x.Name { A.es x.Name with state:=1,BD:=x.Person })
def zH (p:GPermitPlan) (A:AO) (x:aU):AO×List Str×Int :=
 bif !kJ x.Person then uq A 4 [] else bif decide (x.Person=(A.es x.Name).BD) then uq A 26 [] else
 match FQ p A (nR p x.Name) with
 | r :: _=>uq A r.Err r.Names
 | []=>Bd (Ii A x.Name 2)
def FK (p:GPermitPlan) (A:AO) (x:aU):AO×List Str×Int :=
 let y:=nR p x.Name
 bif decide (y.Kind=5) && !(mr p A (fun z=>Ik z.Locks y.Name)).isEmpty then uq A 20 (mr p A (fun z=>Ik z.Locks y.Name)) else
 bif decide (y.Kind=1)&&decide (stA A y.Name=2)&&(yA p y.Space).dS&&(mr p A (fun z=>decide (z.Kind=1)&&decide (z.Space=y.Space) && !decide (z.Name=y.Name))).isEmpty && !(zo A (fun s=>decide (s=y.Space))).isEmpty then uq A 21 (zo A (fun s=>decide (s=y.Space))) else
 Bd (Ii A x.Name 4)
def Vr (p:GPermitPlan) (A:AO) (x:aU):AO×List Str×Int :=
 bif !xg p x.Space then uq A 6 [] else bif decide (x.vN<0)||decide (1000<x.vN)||decide (x.Pq<0)||decide (1000<x.Pq) then uq A 2 [] else
 Bd { A with ts:=fun s=>bif decide (s=x.Space) then some ⟨A.now,x.vN,x.Pq⟩ else A.ts s }
def D6 (A:AO) (n:Str):Bool:=A.pp.any fun q=>decide (q.1=n)
def O5 (p:GPermitPlan) (A:AO) (x:aU):AO×List Str×Int :=
 bif !kJ x.Person then uq A 4 [] else bif !xg p x.Space then uq A 6 [] else bif D6 A x.Person then uq A 18 [] else
 bif (yA p x.Space).dS && !Ag p A x.Space then uq A 21 [] else
 bif !(mr p A (fun y=>decide (y.Kind=3)&&decide (pK p y.Space x.Space≤1))).isEmpty then uq A 17 (mr p A (fun y=>decide (y.Kind=3)&&decide (pK p y.Space x.Space≤1))) else
 Bd { A with pp:=Jf A.pp x.Person x.Space }
def O6 (A:AO) (x:aU):AO×List Str×Int :=
 bif !kJ x.Person then uq A 4 [] else bif !D6 A x.Person then uq A 6 [] else Bd { A with pp:=A.pp.filter fun q=>!decide (q.1=x.Person) }
def O7 (p:GPermitPlan) (A:AO) (x:aU):AO×List Str×Int :=
 bif !xg p x.Space then uq A 6 [] else
 Bd { A with es:=fun s=>bif iU p s&&decide (stA A s=2)&&(!decide ((nR p s).Kind=5)&&decide (pK p (nR p s).Space x.Space≤1)) then { A.es s with state:=3 } else A.es s }
def J5 (A:AO) (x:aU):AO×List Str×Int :=
 bif !kJ x.Person then uq A 4 [] else bif decide (x.To≤(A.es x.Name).yB)||decide (1000000<x.To) then uq A 2 [] else Bd (NS A x.Name { A.es x.Name with yB:=x.To })
def BN (op:Int):Option (List Int):=if op=1 then some [0] else if op=2 then some [1] else if op=3 then some [2] else if op=4 then some [3] else if op=5 then some [2,3] else if op=6 then some [0,1] else if op=11 then some [1,2,3] else none
def yH (p:GPermitPlan) (A:AO) (x:aU):AO×List Str×Int :=
 if x.Op=0 then Bd A else if x.Op=1 then Df A x else if x.Op=2 then zH p A x else if x.Op=3 then Bd (Ii A x.Name 3) else if x.Op=4 then zH p A x else
 if x.Op=5 then FK p A x else if x.Op=6 then Bd (Ii A x.Name 5) else if x.Op=7 then Vr p A x else if x.Op=8 then O5 p A x else if x.Op=9 then O6 A x else
 if x.Op=10 then O7 p A x else J5 A x
def Bc (p:GPermitPlan) (A:AO) (x:aU):AO×List Str×Int :=
 match BN x.Op with
 | none=>yH p A x
 | some l=>bif !iU p x.Name then uq A 6 [] else bif !l.contains (stA A x.Name) then uq A 18 [] else yH p A x
def xA (p:GPermitPlan) (A:AO) (x:aU):AO×List Str×Int :=
 bif decide (x.Op<0)||decide (12≤x.Op)||decide (x.At<0)||decide (1000000<x.At) then uq A 2 [] else bif decide (x.At<A.now) then uq A 10 [] else
 let r:=Bc p (dP p { A with now:=x.At }) x
 bif decide (r.2.2=0) then ({ dP p r.1 with done:=A.done ++ [x] },[],0) else r
def Lr (p:GPermitPlan):AO:=dP p ⟨0,fun s=>bif iU p s then ⟨0,[],(nR p s).To⟩ else ⟨0,[],0⟩,fun _=>none,[],[]⟩
end Go.KB
