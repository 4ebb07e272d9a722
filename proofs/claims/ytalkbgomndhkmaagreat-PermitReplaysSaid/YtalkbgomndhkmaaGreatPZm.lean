/- Plain laws of chapter 7: what a valid plan is, nearness, exclusion, needs. Plain laws of chapter 7: loops that filter, find and delete. Plain laws of chapter 7: near and needs of the program. Plain laws of chapter 7: what an office does, by names. No condition. -/
import Derived.Test.YtalkbgomndhkmaaGreatPZl
namespace Go.KB
set_option linter.unusedVariables false
def EQ (l:List Str) (s:Str):Bool:=l.any (fun x=>decide (s=x))
theorem jQa {l:List Str} {s:Str}:EQ l s=true↔s ∈ l:=by
 unfold EQ;rw [List.any_eq_true]
 constructor
 ·rintro ⟨x,h1,h2⟩;rw [decide_eq_true_eq] at h2;rw [h2];exact h1
 ·intro h;exact ⟨s,h,by simp⟩
theorem UC {p:GPermitPlan} {s:Str}:xw p s=true↔∃ y ∈ p.bM,y.Name=s:=by
 unfold xw;rw [List.any_eq_true];simp [isS]
theorem zM {p:GPermitPlan} {s:Str}:mX p s=true↔∃ y ∈ p.aj,y.Name=s:=by
 unfold mX;rw [List.any_eq_true];simp [Qc]
theorem PY {α:Type} {z:α} {g:α→Bool} {l:List α} (h:l.any g=true):(A8 z g l).1 ∈ l∧g (A8 z g l).1=true:=by
 unfold A8
 cases h2:l.find? g with
 | none=>rw [List.any_eq_true] at h;obtain ⟨x,hx,hg⟩:=h;exact absurd hg (by simpa using List.find?_eq_none.1 h2 x hx)
 | some y=>exact ⟨List.mem_of_find?_eq_some h2,List.find?_some h2⟩
theorem Le {p:GPermitPlan} {s:Str} (h:xw p s=true):y9 p s ∈ p.bM∧(y9 p s).Name=s:=by
 have:=PY (z:=(⟨[],false,[]⟩:dG)) h
 exact ⟨this.1,of_decide_eq_true this.2⟩
theorem Ap {p:GPermitPlan} {s:Str} (h:mX p s=true):sH p s ∈ p.aj∧(sH p s).Name=s:=by
 have:=PY (z:=(⟨[],0,[],0,0,[]⟩:aH)) h
 exact ⟨this.1,of_decide_eq_true this.2⟩
structure Ee (p:GPermitPlan):Prop where
 ns:p.bM.length≤30
 ne:p.eG.length≤30
 np:p.aj.length≤20
 gm:1≤p.fU∧p.fU≤10000
 sn:∀ y ∈ p.bM,lZ y.Name=true
 sd:∀ i j,i<p.bM.length→j<p.bM.length→p.bM[i]!.Name=p.bM[j]!.Name→i=j
 nx:∀ y ∈ p.bM,∀ n ∈ y.Next,xw p n=true∧n≠y.Name
 xk:∀ e ∈ p.eG,CO e.A=true∧CO e.B=true∧0≤e.Reach∧e.Reach≤2
 pn:∀ y ∈ p.aj,lZ y.Name=true
 pd:∀ i j,i<p.aj.length→j<p.aj.length→p.aj[i]!.Name=p.aj[j]!.Name→i=j
 pk:∀ y ∈ p.aj,CO y.Kind=true∧0≤y.From∧y.From<y.To∧y.To≤1000000∧xw p y.Space=true
 lk:∀ y ∈ p.aj,∀ l ∈ y.Locks,mX p l=true∧(sH p l).Kind=5∧y.Kind≠5
theorem Xg {a b:Int} (h:Je a b=0):a=0∧b=0:=by
 unfold Je at h
 by_cases h0:a=0
 ·rw [if_pos h0] at h;exact ⟨h0,h⟩
 ·rw [if_neg h0] at h;exact absurd h h0
theorem Fq {α:Type} [Inhabited α] {l:List α} {e:Nat→Int} {y:α} (h:iV e l.length 0=0) (hy:y ∈ l):∃ i,i<l.length∧l[i]! = y∧e i=0:=by
 obtain ⟨i,hi,rfl⟩:=List.getElem_of_mem hy
 exact ⟨i,hi,CB hi,FX h i (by omega) (by omega)⟩
theorem Xh {nm:Nat→Str} {n:Nat} (h:∀ i,i<n→dup nm i (nm i)=false):∀ i j,i<n→j<n→nm i=nm j→i=j:=by
 have key:∀ i j,i<j→j<n→nm i≠nm j:=fun i j hij hj he=>by
  have:=(SI nm (nm j) j).2 ⟨i,hij,he⟩
  rw [h j hj] at this;cases this
 intro i j hi hj he
 rcases Nat.lt_trichotomy i j with h1 | h1 | h1
 ·exact absurd he (key i j h1 hj)
 ·exact h1
 ·exact absurd he.symm (key j i h1 hi)
theorem eSp0 {p:GPermitPlan} {i:Nat} (h:eSp p i=0):lZ (LC p i)=true∧dup (LC p) i (LC p i)=false:=by
 unfold eSp at h
 split at h
 ·cases h
 ·rename_i h1
  split at h
  ·cases h
  ·rename_i h2;exact ⟨by simpa using h1,by simpa using h2⟩
theorem ePm0 {p:GPermitPlan} {i:Nat} (h:ePm p i=0):lZ (N8 p i)=true∧dup (N8 p) i (N8 p i)=false∧CO p.aj[i]!.Kind=true∧0≤p.aj[i]!.From∧p.aj[i]!.From<p.aj[i]!.To∧p.aj[i]!.To≤1000000∧xw p p.aj[i]!.Space=true:=by
 unfold ePm at h
 split at h
 ·cases h
 ·rename_i h1
  split at h
  ·cases h
  ·rename_i h2
   split at h
   ·cases h
   ·rename_i h3
    split at h
    ·cases h
    ·rename_i h4
     simp only [not_or] at h3
     refine ⟨by simpa using h1,by simpa using h2,by simpa using h3.1,by omega,by omega,by omega,by simpa using h4⟩
theorem okP {p:GPermitPlan} (h:uG p=0):Ee p:=by
 unfold uG at h
 split at h
 ·cases h
 rename_i hb
 split at h
 ·cases h
 rename_i hg
 obtain ⟨h1,h2⟩:=Xg h
 obtain ⟨h1,h3⟩:=Xg h1
 obtain ⟨h4,h5⟩:=Xg h2
 obtain ⟨h5,h6⟩:=Xg h5
 refine ⟨by omega,by omega,by omega,by omega,?_,?_,?_,?_,?_,?_,?_,?_⟩
 ·intro y hy;obtain ⟨i,hi,rfl,he⟩:=Fq h1 hy;exact (eSp0 he).1
 ·exact Xh (nm:=LC p) fun i hi=>(eSp0 (FX h1 i (by omega) (by omega))).2
 ·intro y hy n hn
  obtain ⟨i,hi,rfl,he⟩:=Fq h3 hy
  obtain ⟨j,hj,rfl,he⟩:=Fq he hn
  unfold eNx at he
  split at he
  ·cases he
  ·rename_i a
   split at he
   ·cases he
   ·rename_i b;exact ⟨by simpa using a,b⟩
 ·intro y hy
  obtain ⟨i,hi,rfl,he⟩:=Fq h4 hy
  unfold eEx at he
  split at he
  ·cases he
  ·rename_i a;simp only [not_or] at a;exact ⟨by simpa using a.1,by simpa using a.2.1,by omega,by omega⟩
 ·intro y hy;obtain ⟨i,hi,rfl,he⟩:=Fq h5 hy;exact (ePm0 he).1
 ·exact Xh (nm:=N8 p) fun i hi=>(ePm0 (FX h5 i (by omega) (by omega))).2.1
 ·intro y hy;obtain ⟨i,hi,rfl,he⟩:=Fq h5 hy;exact (ePm0 he).2.2
 ·intro y hy n hn
  obtain ⟨i,hi,rfl,he⟩:=Fq h6 hy
  obtain ⟨j,hj,rfl,he⟩:=Fq he hn
  unfold eLk at he
  split at he
  ·cases he
  ·rename_i a
   split at he
   ·cases he
   ·rename_i b;simp only [not_or] at b;exact ⟨by simpa using a,by simpa using b.1,b.2⟩
theorem Ee.sm {p:GPermitPlan} {N:Nat} (hp:EP p):EP p:=hp
theorem Ee.FT {p:GPermitPlan} (h:Ee p) {x:aH} (hx:x ∈ p.aj):sH p x.Name=x:=by
 have h1:mX p x.Name=true:=zM.2 ⟨x,hx,rfl⟩
 obtain ⟨h2,h3⟩:=Ap h1
 obtain ⟨i,hi,he⟩:=List.getElem_of_mem h2
 obtain ⟨j,hj,hf⟩:=List.getElem_of_mem hx
 have:=h.pd i j hi hj (by rw [CB hi,CB hj,he,hf,h3])
 subst this
 rw [← he,hf]
theorem Ee.ZM {p:GPermitPlan} (h:Ee p) {x:dG} (hx:x ∈ p.bM):y9 p x.Name=x:=by
 have h1:xw p x.Name=true:=UC.2 ⟨x,hx,rfl⟩
 obtain ⟨h2,h3⟩:=Le h1
 obtain ⟨i,hi,he⟩:=List.getElem_of_mem h2
 obtain ⟨j,hj,hf⟩:=List.getElem_of_mem hx
 have:=h.sd i j hi hj (by rw [CB hi,CB hj,he,hf,h3])
 subst this
 rw [← he,hf]
theorem Xi {α:Type} [Inhabited α] {g:α→Bool} {l:List α} (z:α) (h:l.any g=true):∃ i,i<l.length∧Il g l=(i:Int)∧l[i]! = (A8 z g l).1∧g l[i]! = true:=by
 rcases N9 (g:=g) (l:=l) with ⟨_,h1,h2⟩ | ⟨h1,h2⟩
 ·refine ⟨l.findIdx g,h1,CS h1,?_,?_⟩
  ·unfold A8;rw [h2,CB h1]
  ·rw [CB h1];exact List.findIdx_getElem
 ·rw [List.any_eq_true] at h;obtain ⟨x,hx,hg⟩:=h
  exact absurd hg (by simpa using List.find?_eq_none.1 h2 x hx)
theorem ixS {p:GPermitPlan} {s:Str} (h:xw p s=true):∃ i,i<p.bM.length∧Il (isS s) p.bM=(i:Int)∧p.bM[i]! = y9 p s:=by
 obtain ⟨i,h1,h2,h3,_⟩:=Xi (⟨[],false,[]⟩:dG) h
 exact ⟨i,h1,h2,h3⟩
theorem ixP {p:GPermitPlan} {s:Str} (h:mX p s=true):∃ i,i<p.aj.length∧Il (Qc s) p.aj=(i:Int)∧p.aj[i]! = sH p s:=by
 obtain ⟨i,h1,h2,h3,_⟩:=Xi (⟨[],0,[],0,0,[]⟩:aH) h
 exact ⟨i,h1,h2,h3⟩
def kY (p:GPermitPlan) (a b:Str):Int:=if a=b then 0 else bif EQ (y9 p a).Next b||EQ (y9 p b).Next a then 1 else 2
theorem Px (p:GPermitPlan) (a b:Str):kY p a b=kY p b a:=by
 unfold kY
 by_cases h:a=b
 ·subst h;rfl
 ·rw [if_neg h,if_neg (fun x=>h x.symm),Bool.or_comm]
def exE (e:cu) (d k m:Int):Bool:=decide (d≤e.Reach)&&((decide (e.A=k)&&decide (e.B=m))||(decide (e.A=m)&&decide (e.B=k)))
theorem jJx (e:cu) (d k m:Int):exE e d k m=exE e d m k:=by unfold exE;rw [Bool.or_comm]
def yg (p:GPermitPlan) (x y:aH):Bool:=bif decide (x.Name=y.Name) then false else p.eG.any (fun e=>exE e (kY p x.Space y.Space) x.Kind y.Kind)
theorem Kv (p:GPermitPlan) (x y:aH):yg p x y=yg p y x:=by
 unfold yg
 rw [Px p y.Space x.Space,show decide (y.Name=x.Name)=decide (x.Name=y.Name) from decide_eq_decide.2 ⟨Eq.symm,Eq.symm⟩]
 congr 2
 funext e
 exact jJx ..
def AY (x:aH):Bool:=decide (x.Kind=0)||(decide (x.Kind=1)||decide (x.Kind=2))
def I7 (p:GPermitPlan) (x:aH):List Str:=(bif AY x&&(y9 p x.Space).dH then [(y9 p x.Space).Name] else []) ++ (bif decide (x.Kind=0) then (p.bM.filter (fun s=>s.dH&&decide (kY p s.Name (y9 p x.Space).Name=1))).map (fun s=>s.Name) else [])
end Go.KB
namespace Go.KB
set_option linter.unusedVariables false
theorem Ah {α:Type} {xs ys:List α} (h:xs.length+ys.length≤lim):app xs ys=some (xs ++ ys):=by
 unfold app;rw [Nat.ble_eq_true_of_le h];rfl
theorem CJ {S O:Type} {n N:Nat} {f:S→Option (S ⊕ O)} (g:Nat→S) (r:O) (h:∀ i:Nat,i<n→f (g i)=some (.inl (g (i+1)))) (he:f (g n)=some (.inr r)) (hN:n<N):dU f N (g 0)=some r:=by
 have key:∀ k i,i+k=n→∀ M,k<M→dU f M (g i)=some r:=by
  intro k
  induction k with
  | zero =>
   intro i hi M hM
   obtain ⟨M,rfl⟩:∃ m,M=m+1:=⟨M - 1,by omega⟩
   have:i=n:=by omega
   subst this
   simp only [dU,he]
  | succ k ih =>
   intro i hi M hM
   obtain ⟨M,rfl⟩:∃ m,M=m+1:=⟨M - 1,by omega⟩
   simp only [dU,h i (by omega)]
   exact ih (i+1) (by omega) M (by omega)
 exact key n 0 (by omega) N (by omega)
theorem V8 {S O α T:Type} {N:Nat} {f:S→Option (S ⊕ O)} (l:List α) (t0:T) (stp:T→α→T) (mk:T→Int→S) (out:T→O) (hf:∀ (i:Nat) (hi:i<l.length) (t:T),t=(l.take i).foldl stp t0→f (mk t (i:Int))=some (.inl (mk (stp t l[i]) ((i+1:Nat):Int)))) (he:∀ t,f (mk t (l.length:Int))=some (.inr (out t))) (hN:l.length<N):dU f N (mk t0 0)=some (out (l.foldl stp t0)):=by
 refine CJ (n:=l.length) (fun i=>mk ((l.take i).foldl stp t0) (i:Int)) _ (fun i hi=>?_) ?_ hN
 ·rw [hf i hi _ rfl,List.take_succ_eq_append_getElem hi,List.foldl_append];rfl
 ·rw [List.take_length];exact he _
theorem foldl_filter {α β : Type} (g : α → Bool) (h : α → β) : ∀ (l : List α) (a : List β), l.foldl (fun acc x => bif g x then acc ++ [h x] else acc) a = a ++ (l.filter g).map h
  | [],a=>by simp
  | x :: r,a=>by
    simp only [List.foldl_cons,foldl_filter g h r,List.filter_cons]
    cases g x <;> simp
theorem Ya {α β:Type} (g:α→Bool) (h:α→β):∀ (l:List α) (a:List β),(l.foldl (fun acc x=>bif g x then acc ++ [h x] else acc) a).length≤a.length+l.length:=fun l a=>by
 rw [foldl_filter,List.length_append,List.length_map]
 have:=List.length_filter_le g l
 omega
theorem CP {S O α β:Type} {N:Nat} {f:S→Option (S ⊕ O)} (l:List α) (a:List β) (g:α→Bool) (h:α→β) (mk:List β→Int→S) (out:List β→O) (hf:∀ (i:Nat) (hi:i<l.length) (acc:List β),acc.length≤a.length+l.length→f (mk acc (i:Int))=some (.inl (mk (bif g l[i] then acc ++ [h l[i]] else acc) ((i+1:Nat):Int)))) (he:∀ t,f (mk t (l.length:Int))=some (.inr (out t))) (hN:l.length<N):dU f N (mk a 0)=some (out (a ++ (l.filter g).map h)):=by
 rw [V8 (f:=f) l a (fun acc x=>bif g x then acc ++ [h x] else acc) mk out (fun i hi t ht=>?_) he hN,foldl_filter]
 refine hf i hi t ?_
 rw [ht]
 have:=Ya g h (l.take i) a
 rw [List.length_take] at this
 omega
theorem MP {α:Type} {l:List α} {a b:Nat} (h:a≤b) (hb:b≤l.length):NF l (a:Int) (b:Int)=some ((l.take b).drop a):=by
 unfold NF
 rw [dT (by omega),dT (by omega),dT (by omega)];rfl
theorem jJz {N:Nat} {f:(List Str×Int×Int)→Option ((List Str×Int×Int) ⊕ (List Str×Int))} {l:List Str} {g:Str→Bool} (hf:∀ (xs:List Str) (i j:Nat),(hj:j<xs.length)→i≤j→j<1000000→xs[j] ∈ l→f (xs,(i:Int),(j:Int))=bif !g xs[j] then some (.inl (xs.set i xs[j],((i+1:Nat):Int),((j+1:Nat):Int))) else some (.inl (xs,(i:Int),((j+1:Nat):Int)))) (he:∀ (xs:List Str) (i:Int),f (xs,i,(xs.length:Int))=some (.inr (xs,i))) (hl:l.length<1000000) (hN:1000000≤N) {i0:Nat} (h0:i0<l.length) (hi:l.findIdx g=i0) :
    ∃ xs,dU f N (l,(i0:Int),((i0+1:Nat):Int))=some (xs,((l.filter fun s=>!g s).length:Int))∧xs.length=l.length∧xs.take (l.filter fun s=>!g s).length=l.filter fun s=>!g s:=by
  have key:∀ k i j xs,j+k=l.length→i≤j→xs.length=l.length→xs.take i=(l.take j).filter (fun s=>!g s)→xs.drop j=l.drop j→i=((l.take j).filter (fun s=>!g s)).length→∀ M,k<M →
      ∃ ys,dU f M (xs,(i:Int),(j:Int))=some (ys,((l.filter fun s=>!g s).length:Int))∧ys.length=l.length∧ys.take (l.filter fun s=>!g s).length=l.filter fun s=>!g s:=by
    intro k
    induction k with
    | zero =>
      intro i j xs hj hij hx h1 h2 h3 M hM
      obtain ⟨M,rfl⟩:∃ m,M=m+1:=⟨M - 1,by omega⟩
      have:j=xs.length:=by omega
      subst this
      rw [hx,List.take_length] at h1 h3
      refine ⟨xs,?_,hx,by rw [← h3];exact h1⟩
      simp only [dU,he,h3]
    | succ k ih =>
      intro i j xs hj hij hx h1 h2 h3 M hM
      obtain ⟨M,rfl⟩:∃ m,M=m+1:=⟨M - 1,by omega⟩
      have hjx:j<xs.length:=by omega
      have hjl:j<l.length:=by omega
      have hxj:xs[j]=l[j]:=by
        have:=congrArg (fun l=>l[0]?) h2
        simp only [List.getElem?_drop,Nat.add_zero] at this
        rw [List.getElem?_eq_getElem hjx,List.getElem?_eq_getElem hjl] at this
        exact Option.some.inj this
      have hd:xs.drop (j+1)=l.drop (j+1):=by rw [← List.drop_drop,← List.drop_drop,h2]
      simp only [dU,hf xs i j hjx hij (by omega) (by rw [hxj];exact List.getElem_mem hjl)]
      rw [hxj]
      have htk:(l.take (j+1)).filter (fun s=>!g s)=(l.take j).filter (fun s=>!g s) ++ [l[j]].filter (fun s=>!g s):=by
        rw [List.take_succ_eq_append_getElem hjl,List.filter_append]
      cases hg:g l[j] with
      | false =>
        have hone:[l[j]].filter (fun s=>!g s)=[l[j]]:=by simp [hg]
        rw [hone] at htk
        simp only [Bool.not_false,lQ]
        refine ih (i+1) (j+1) (xs.set i l[j]) (by omega) (by omega) (by simpa using hx) ?_ ?_ ?_ M (by omega)
        · rw [htk, ← h1, List.take_succ_eq_append_getElem (by simp; omega), List.take_set_of_le (Nat.le_refl _)]
          simp
        · rw [List.drop_set_of_lt (by omega)];exact hd
        · rw [htk,List.length_append,← h3];rfl
      | true =>
        have hone:[l[j]].filter (fun s=>!g s)=[]:=by simp [hg]
        rw [hone,List.append_nil] at htk
        simp only [Bool.not_true,lT]
        exact ih i (j+1) xs (by omega) (by omega) hx (by rw [htk];exact h1) hd (by rw [htk];exact h3) M (by omega)
  have hpre:(l.take i0).filter (fun s=>!g s)=l.take i0:=by
    refine List.filter_eq_self.2 fun a ha=>?_
    obtain ⟨j,hj,rfl⟩:=List.getElem_of_mem ha
    rw [List.length_take] at hj
    have:=List.not_of_lt_findIdx (p:=g) (xs:=l) (i:=j) (by omega)
    rw [List.getElem_take]
    simpa using this
  have hat:g l[i0]=true:=by subst hi;exact List.findIdx_getElem
  refine key (l.length - (i0+1)) i0 (i0+1) l (by omega) (by omega) rfl ?_ rfl ?_ N (by omega)
  · rw [List.take_succ_eq_append_getElem h0,List.filter_append,hpre];simp [hat]
  · rw [List.take_succ_eq_append_getElem h0,List.filter_append,hpre];simp [hat];omega
theorem del_eq {N:Nat} {f:(List Str×Int×Int)→Option ((List Str×Int×Int) ⊕ (List Str×Int))} {l:List Str} {g:Str→Bool} (hf:∀ (xs:List Str) (i j:Nat),(hj:j<xs.length)→i≤j→j<1000000→xs[j] ∈ l→f (xs,(i:Int),(j:Int))=bif !g xs[j] then some (.inl (xs.set i xs[j],((i+1:Nat):Int),((j+1:Nat):Int))) else some (.inl (xs,(i:Int),((j+1:Nat):Int)))) (he:∀ (xs:List Str) (i:Int),f (xs,i,(xs.length:Int))=some (.inr (xs,i))) (hl:l.length<1000000) (hN:1000000≤N) :
    (bif (aF .eql (Il g l) (-1)) then (some l) else ((dU f N (l,Il g l,(IntKind.i64.wrap (Il g l+1)))).bind fun o8=>(NF o8.1 o8.2 (List.length o8.1:Int)).bind fun v10=>(bif Nat.beq ((Int.toNat o8.2)+(Int.toNat (List.length o8.1:Int) - Int.toNat o8.2)) (List.length o8.1) then some (List.take (Int.toNat o8.2) o8.1 ++ List.replicate (Int.toNat (List.length o8.1:Int) - Int.toNat o8.2) []) else none).bind fun v11=>(NF v11 0 o8.2).bind fun v12=>some v12))=some (l.filter fun s=>!g s):=by
  rw [iW]
  by_cases h:l.findIdx g<l.length
  · rw [CS h, dF (by omega), lT, qx (by omega)]
    obtain ⟨xs,h1,h2,h3⟩:=jJz hf he hl hN h rfl
    rw [h1,bS]
    simp only []
    have hk:(l.filter fun s=>!g s).length≤xs.length:=by rw [h2];exact List.length_filter_le _ _
    generalize hkk:(l.filter fun s=>!g s).length=k at h3 hk
    rw [MP hk (Nat.le_refl _),bS,Int.toNat_natCast,Int.toNat_natCast,show Nat.beq (k+(xs.length - k)) xs.length=true from by rw [Nat.beq_eq];omega,lQ,bS]
    have e0:NF (List.take k xs ++ List.replicate (xs.length - k) []) 0 (k:Int)=some (((List.take k xs ++ List.replicate (xs.length - k) []).take k).drop 0):=MP (a:=0) (Nat.zero_le _) (by simp;omega)
    rw [e0,bS,List.drop_zero,List.take_append_of_le_length (by simp;omega),List.take_take,Nat.min_self,h3]
  · rw [H7 h,dT rfl,lQ]
    congr 1
    refine (List.filter_eq_self.2 fun a ha=>?_).symm
    cases hg:g a with
    | false=>rfl
    | true=>exact absurd (List.findIdx_lt_length.2 ⟨a,ha,hg⟩) h
end Go.KB
namespace Go.KB
set_option linter.unusedVariables false
theorem PZ {N:Nat} {l:List Str} {s:Str} (hl:l.length<1000000) (hN:1000000≤N):iM N l s=some (EQ l s):=by
 unfold iM qM
 have h:((dU (lN N l s) N 0).bind fun o5=>Sum.elim (fun l7=>some (-1:Int)) (fun r8=>some r8) o5)=some (Il (fun x=>decide (s=x)) l):=by
  refine zf (fun i hi=>?_) ?_ (by omega)
  ·unfold lN
   rw [bW,dT (by omega),lQ,jd hi,bS,rJ,qx (by omega)]
  ·unfold lN
   rw [bW,dF (by omega),lT]
 rw [h,bS,BA]
 have:=FU (g:=fun x=>decide (s=x)) (l:=l)
 unfold EQ
 cases h2:l.any (fun x=>decide (s=x)) with
 | true=>rw [h2] at this;simp at this;rw [dT (by omega)]
 | false=>rw [h2] at this;simp at this;rw [dF (by omega)]
theorem PX {N:Nat} {l:List Int} {s:Int} (hl:l.length<1000000) (hN:1000000≤N):qw N l s=some (l.contains s):=by
 unfold qw ve
 have h:((dU (oq N l s) N 0).bind fun o5=>Sum.elim (fun l7=>some (-1:Int)) (fun r8=>some r8) o5)=some (Il (fun x=>decide (s=x)) l):=by
  refine zf (fun i hi=>?_) ?_ (by omega)
  ·unfold oq
   rw [bW,dT (by omega),lQ,jd hi,bS,iW,qx (by omega)]
  ·unfold oq
   rw [bW,dF (by omega),lT]
 rw [h,bS,BA]
 have:=FU (g:=fun x=>decide (s=x)) (l:=l)
 have e:l.contains s=l.any (fun x=>decide (s=x)):=by
  rw [Bool.eq_iff_iff,List.contains_iff_mem,List.any_eq_true];simp
 rw [e]
 cases h2:l.any (fun x=>decide (s=x)) with
 | true=>rw [h2] at this;simp at this;rw [dT (by omega)]
 | false=>rw [h2] at this;simp at this;rw [dF (by omega)]
theorem EP.next {p:GPermitPlan} (hp:EP p) (s:Str):(y9 p s).Next.length<1000:=by
 unfold y9 A8
 cases h:p.bM.find? (isS s) with
 | none=>simp
 | some y=>exact hp.n y (List.mem_of_find?_eq_some h)
theorem Lp {N:Nat} {p:GPermitPlan} {a b:Str} (hp:EP p) (hN:1000000≤N):rU N p a b=some (kY p a b):=by
  unfold rU kY
  have hs:=hp.s
  have h1:=hp.next a
  have h2:=hp.next b
  rw [AP (by omega) hN,AP (by omega) hN,bS,bS,rJ]
  by_cases h:a=b
  · rw [dT h,if_pos h];rfl
  · rw [dF h, if_neg h, lT, show iM N (A8 _ (isS a) p.bM).1.Next b = _ from PZ (by exact Nat.lt_trans h1 (by decide)) hN, show iM N (A8 _ (isS b) p.bM).1.Next a = _ from PZ (by exact Nat.lt_trans h2 (by decide)) hN, bS]
    show ((bif (!EQ (y9 p a).Next b) then some (EQ (y9 p b).Next a) else some false).bind fun v4=>bif (EQ (y9 p a).Next b||v4) then (some (1:Int)) else (some 2))=_
    cases EQ (y9 p a).Next b with
    | true=>rfl
    | false=>cases EQ (y9 p b).Next a <;> rfl
theorem Z8 {N:Nat} {p:GPermitPlan} {x:aH} (hp:EP p) (hN:1000000≤N):zF N p x=some (I7 p x):=by
 unfold zF I7
 have hs:=hp.s
 have hlim:lim ≥ 1000000:=by decide
 rw [AP (by omega) hN,bS]
 have hk:(bif (aF .eql x.Kind 0) then (some (aF .eql x.Kind 0)) else (bif (aF .eql x.Kind 1) then (some (aF .eql x.Kind 1)) else (some (aF .eql x.Kind 2))))=some (AY x):=by
  unfold AY
  simp only [iW]
  cases decide (x.Kind=0) <;> cases decide (x.Kind=1) <;> cases decide (x.Kind=2) <;> rfl
 rw [hk,bS]
 have ho:(bif AY x then (bif (A8 (⟨[],false,[]⟩:dG) (isS x.Space) p.bM).1.dH then ((app [] [(A8 (⟨[],false,[]⟩:dG) (isS x.Space) p.bM).1.Name]).bind fun v6=>some v6) else (some [])) else (some []))=some (bif AY x&&(y9 p x.Space).dH then [(y9 p x.Space).Name] else []):=by
  show (bif AY x then (bif (y9 p x.Space).dH then ((app [] [(y9 p x.Space).Name]).bind fun v6=>some v6) else (some [])) else (some []))=_
  rw [Ah (by simp only [List.length_nil,List.length_singleton];omega)]
  cases AY x <;> cases (y9 p x.Space).dH <;> rfl
 rw [ho,bS,iW]
 by_cases h0:x.Kind=0
 ·rw [dT h0,lQ,lQ]
  rw [CP (f:=uy N p (A8 (⟨[],false,[]⟩:dG) (isS x.Space) p.bM)) p.bM _ (fun s=>s.dH&&decide (kY p s.Name (y9 p x.Space).Name=1)) (fun s=>s.Name) (fun a i=>(a,i)) (fun a=>a) (fun i hi acc hacc=>?_) (fun acc=>?_) (by omega)]
  ·rfl
  ·have hacc':acc.length≤1+p.bM.length:=by
    refine Nat.le_trans hacc (Nat.add_le_add_right ?_ _)
    cases (AY x&&(y9 p x.Space).dH) <;> simp
   unfold uy
   simp only []
   rw [bW,dT (by omega),lQ,jd hi,bS,Lp hp hN,qx (by omega)]
   show ((bif p.bM[i].dH then some (kY p p.bM[i].Name (y9 p x.Space).Name) else some 0).bind fun v13=>_)=_
   cases p.bM[i].dH with
   | false=>rfl
   | true =>
    rw [lQ,bS,Bool.true_and,Bool.true_and,iW]
    cases decide (kY p p.bM[i].Name (y9 p x.Space).Name=1) with
    | false=>rfl
    | true=>rw [lQ,Ah (by simp only [List.length_singleton];omega)];rfl
  ·unfold uy
   simp only []
   rw [bW,dF (by omega),lT]
 ·rw [dF h0,lT,lT,List.append_nil]
theorem PG {p:GPermitPlan} {x:aH} (hp:EP p):(I7 p x).length<2000:=by
 have hs:=hp.s
 unfold I7
 rw [List.length_append]
 have h1:(bif AY x&&(y9 p x.Space).dH then [(y9 p x.Space).Name] else []).length≤1:=by cases (AY x&&(y9 p x.Space).dH) <;> simp
 have h2:(bif decide (x.Kind=0) then (p.bM.filter (fun s=>s.dH&&decide (kY p s.Name (y9 p x.Space).Name=1))).map (fun s=>s.Name) else []).length≤p.bM.length:=by
  cases decide (x.Kind=0) with
  | false=>exact Nat.zero_le _
  | true=>rw [lQ,List.length_map];exact List.length_filter_le _ _
 omega
end Go.KB
namespace Go.KB
set_option linter.unusedVariables false
structure AO where
 now:Int
 es:Str→ah
 ts:Str→Option au
 pp:List (Str×Str)
 done:List GEvent
def stA (A:AO) (s:Str):Int:=(A.es s).state
def VY (A:AO) (n:Str) (e:ah):AO:={ A with es:=fun s=>bif decide (s=n) then e else A.es s }
def Qb (A:AO) (n:Str) (k:Int):AO:=VY A n { A.es n with state:=k }
def QU (p:GPermitPlan) (A:AO) (s:Str):Bool:=bif !(y9 p s).dH then true else match A.ts s with
 | none=>false
 | some t=>decide (A.now - t.at_≤p.fU)&&decide (195≤t.nO)&&decide (t.nO≤235)&&decide (t.QG≤50)
def QT (p:GPermitPlan) (A:AO) (s:Str):Bool:=bif !(y9 p s).dH then true else match A.ts s with
 | none=>false
 | some t=>decide (A.now - t.at_≤p.fU)&&decide (195≤t.nO)&&decide (t.nO≤235)&&decide (t.QG≤50)&&decide (t.QG≤10)
def EK (p:GPermitPlan) (A:AO) (x:aH) (s:Str):Bool:=bif decide (x.Kind=0) then QT p A s else QU p A s
def AZ (p:GPermitPlan) (A:AO) (x:aH):List Str:=(I7 p x).filter fun s=>!EK p A x s
def E8 (A:AO) (x:aH):List Str:=x.Locks.filter fun s=>!decide (stA A s=2)
def yh (p:GPermitPlan) (A:AO) (x:aH):Bool:=!(AZ p A x).isEmpty || !(E8 A x).isEmpty
def Bd (now:Int) (e:ah):ah:=bif decide (e.state≤3)&&decide (e.yQ≤now) then { e with state:=6 } else e
def Bc (p:GPermitPlan) (A:AO):AO:={ A with es:=fun s=>bif mX p s then Bd A.now (A.es s) else A.es s }
def zo (p:GPermitPlan) (A:AO):AO:={ A with es:=fun s=>bif mX p s&&decide (stA A s=2)&&yh p A (sH p s) then { A.es s with state:=3 } else A.es s }
def gZ (p:GPermitPlan) (A:AO):AO:=zo p (Bc p A)
def nC (p:GPermitPlan) (A:AO) (so:aH→Bool):List Str:=(p.aj.filter fun x=>decide (stA A x.Name=2)&&so x).map fun x=>x.Name
def yV (A:AO) (so:Str→Bool):List Str:=(A.pp.filter fun q=>so q.2).map fun q=>q.1
def Gz (p:GPermitPlan) (A:AO) (x:aH):List bV :=
 (bif decide (A.now<x.From) then [(⟨2,[]⟩:bV)] else []) ++
 (([(⟨18,E8 A x⟩:bV),(⟨20,nC p A (fun y=>yg p y x)⟩:bV),(⟨21,AZ p A x⟩:bV)] ++ (bif decide (x.Kind=3) then [(⟨17,yV A (fun s=>decide (kY p s x.Space≤1))⟩:bV)] else [])).filter fun r=>!r.Names.isEmpty)
def xM (p:GPermitPlan) (A:AO) (s:Str):Bool:=!(nC p A (fun y=>decide (y.Kind=1)&&decide (y.Space=s))).isEmpty
def JL:List (Str×Str)→Str→Str→List (Str×Str)
 | [],n,s=>[(n,s)]
 | q :: r,n,s=>bif decide (q.1<n) then q :: JL r n s else (n,s) :: q :: r
def wO (A:AO) (e:Int) (l:List Str):AO×List Str×Int:=(A,l,e)
def BB (A:AO):AO×List Str×Int:=(A,[],0)
def Dl (A:AO) (x:GEvent):AO×List Str×Int:=bif !lZ x.Person then wO A 4 [] else BB (VY A x.Name { A.es x.Name with state:=1,zS:=x.Person })
def Ai (p:GPermitPlan) (A:AO) (x:GEvent):AO×List Str×Int :=
 bif !lZ x.Person then wO A 4 [] else bif decide (x.Person=(A.es x.Name).zS) then wO A 26 [] else
 match Gz p A (sH p x.Name) with
 | r :: _=>wO A r.Err r.Names
 | []=>BB (Qb A x.Name 2)
def BD (p:GPermitPlan) (A:AO) (x:GEvent):AO×List Str×Int :=
 let y:=sH p x.Name
 bif decide (y.Kind=5) && !(nC p A (fun z=>EQ z.Locks y.Name)).isEmpty then wO A 20 (nC p A (fun z=>EQ z.Locks y.Name)) else
 bif decide (y.Kind=1)&&decide (stA A y.Name=2)&&(y9 p y.Space).dH&&(nC p A (fun z=>decide (z.Kind=1)&&decide (z.Space=y.Space) && !decide (z.Name=y.Name))).isEmpty && !(yV A (fun s=>decide (s=y.Space))).isEmpty then wO A 21 (yV A (fun s=>decide (s=y.Space))) else
 BB (Qb A x.Name 4)
def Uu (p:GPermitPlan) (A:AO) (x:GEvent):AO×List Str×Int :=
 bif !xw p x.Space then wO A 6 [] else bif decide (x.oz<0)||decide (1000<x.oz)||decide (x.GY<0)||decide (1000<x.GY) then wO A 2 [] else
 BB { A with ts:=fun s=>bif decide (s=x.Space) then some ⟨A.now,x.oz,x.GY⟩ else A.ts s }
def Aa (A:AO) (n:Str):Bool:=A.pp.any fun q=>decide (q.1=n)
def Jd (p:GPermitPlan) (A:AO) (x:GEvent):AO×List Str×Int :=
 bif !lZ x.Person then wO A 4 [] else bif !xw p x.Space then wO A 6 [] else bif Aa A x.Person then wO A 18 [] else
 bif (y9 p x.Space).dH && !xM p A x.Space then wO A 21 [] else
 bif !(nC p A (fun y=>decide (y.Kind=3)&&decide (kY p y.Space x.Space≤1))).isEmpty then wO A 17 (nC p A (fun y=>decide (y.Kind=3)&&decide (kY p y.Space x.Space≤1))) else
 BB { A with pp:=JL A.pp x.Person x.Space }
def Jc (A:AO) (x:GEvent):AO×List Str×Int :=
 bif !lZ x.Person then wO A 4 [] else bif !Aa A x.Person then wO A 6 [] else BB { A with pp:=A.pp.filter fun q=>!decide (q.1=x.Person) }
def Jb (p:GPermitPlan) (A:AO) (x:GEvent):AO×List Str×Int :=
 bif !xw p x.Space then wO A 6 [] else
 BB { A with es:=fun s=>bif mX p s&&decide (stA A s=2)&&(!decide ((sH p s).Kind=5)&&decide (kY p (sH p s).Space x.Space≤1)) then { A.es s with state:=3 } else A.es s }
def Fp (A:AO) (x:GEvent):AO×List Str×Int :=
 bif !lZ x.Person then wO A 4 [] else bif decide (x.To≤(A.es x.Name).yQ)||decide (1000000<x.To) then wO A 2 [] else BB (VY A x.Name { A.es x.Name with yQ:=x.To })
def xN (op:Int):Option (List Int):=if op=1 then some [0] else if op=2 then some [1] else if op=3 then some [2] else if op=4 then some [3] else if op=5 then some [2,3] else if op=6 then some [0,1] else if op=11 then some [1,2,3] else none
def wM (p:GPermitPlan) (A:AO) (x:GEvent):AO×List Str×Int :=
 if x.Op=0 then BB A else if x.Op=1 then Dl A x else if x.Op=2 then Ai p A x else if x.Op=3 then BB (Qb A x.Name 3) else if x.Op=4 then Ai p A x else
 if x.Op=5 then BD p A x else if x.Op=6 then BB (Qb A x.Name 5) else if x.Op=7 then Uu p A x else if x.Op=8 then Jd p A x else if x.Op=9 then Jc A x else
 if x.Op=10 then Jb p A x else Fp A x
def wL (p:GPermitPlan) (A:AO) (x:GEvent):AO×List Str×Int :=
 match xN x.Op with
 | none=>wM p A x
 | some l=>bif !mX p x.Name then wO A 6 [] else bif !l.contains (stA A x.Name) then wO A 18 [] else wM p A x
def CQ (p:GPermitPlan) (A:AO) (x:GEvent):AO×List Str×Int :=
 bif decide (x.Op<0)||decide (12≤x.Op)||decide (x.At<0)||decide (1000000<x.At) then wO A 2 [] else bif decide (x.At<A.now) then wO A 10 [] else
 let r:=wL p (gZ p { A with now:=x.At }) x
 bif decide (r.2.2=0) then ({ gZ p r.1 with done:=A.done ++ [x] },[],0) else r
def FQ (p:GPermitPlan):AO:=gZ p ⟨0,fun s=>bif mX p s then ⟨0,[],(sH p s).To⟩ else ⟨0,[],0⟩,fun _=>none,[],[]⟩
end Go.KB
