/- Plain laws of chapter 7: what a valid plan is, nearness, exclusion, needs. Plain laws of chapter 7: loops that filter, find and delete. Plain laws of chapter 7: near and needs of the program. Plain laws of chapter 7: what an office does, by names. No condition. -/
import Derived.Test.YtekbfkfjhgfieaaGreatPZl
namespace Go.KB
set_option linter.unusedVariables false
def FI (l:List Str) (s:Str):Bool:=l.any (fun x=>decide (s=x))
theorem jXu {l:List Str} {s:Str}:FI l s=true↔s ∈ l:=by
 unfold FI;rw [List.any_eq_true]
 constructor
 ·rintro ⟨x,h1,h2⟩;rw [decide_eq_true_eq] at h2;rw [h2];exact h1
 ·intro h;exact ⟨s,h,by simp⟩
theorem Qm {p:GPermitPlan} {s:Str}:uY p s=true↔∃ y ∈ p.bM,y.Name=s:=by
 unfold uY;rw [List.any_eq_true];simp [isS]
theorem zL {p:GPermitPlan} {s:Str}:l9 p s=true↔∃ y ∈ p.ak,y.Name=s:=by
 unfold l9;rw [List.any_eq_true];simp [OY]
theorem QI {α:Type} {z:α} {g:α→Bool} {l:List α} (h:l.any g=true):(BU z g l).1 ∈ l∧g (BU z g l).1=true:=by
 unfold BU
 cases h2:l.find? g with
 | none=>rw [List.any_eq_true] at h;obtain ⟨x,hx,hg⟩:=h;exact absurd hg (by simpa using List.find?_eq_none.1 h2 x hx)
 | some y=>exact ⟨List.mem_of_find?_eq_some h2,List.find?_some h2⟩
theorem MI {p:GPermitPlan} {s:Str} (h:uY p s=true):yN p s ∈ p.bM∧(yN p s).Name=s:=by
 have:=QI (z:=(⟨[],false,[]⟩:dH)) h
 exact ⟨this.1,of_decide_eq_true this.2⟩
theorem AA {p:GPermitPlan} {s:Str} (h:l9 p s=true):tK p s ∈ p.ak∧(tK p s).Name=s:=by
 have:=QI (z:=(⟨[],0,[],0,0,[]⟩:aH)) h
 exact ⟨this.1,of_decide_eq_true this.2⟩
structure EQ (p:GPermitPlan):Prop where
 ns:p.bM.length≤30
 ne:p.dY.length≤30
 np:p.ak.length≤20
 gm:1≤p.gB∧p.gB≤10000
 sn:∀ y ∈ p.bM,mZ y.Name=true
 sd:∀ i j,i<p.bM.length→j<p.bM.length→p.bM[i]!.Name=p.bM[j]!.Name→i=j
 nx:∀ y ∈ p.bM,∀ n ∈ y.Next,uY p n=true∧n≠y.Name
 xk:∀ e ∈ p.dY,DI e.A=true∧DI e.B=true∧0≤e.Reach∧e.Reach≤2
 pn:∀ y ∈ p.ak,mZ y.Name=true
 pd:∀ i j,i<p.ak.length→j<p.ak.length→p.ak[i]!.Name=p.ak[j]!.Name→i=j
 pk:∀ y ∈ p.ak,DI y.Kind=true∧0≤y.From∧y.From<y.To∧y.To≤1000000∧uY p y.Space=true
 lk:∀ y ∈ p.ak,∀ l ∈ y.Locks,l9 p l=true∧(tK p l).Kind=5∧y.Kind≠5
theorem XQ {a b:Int} (h:JJ a b=0):a=0∧b=0:=by
 unfold JJ at h
 by_cases h0:a=0
 ·rw [if_pos h0] at h;exact ⟨h0,h⟩
 ·rw [if_neg h0] at h;exact absurd h h0
theorem Gl {α:Type} [Inhabited α] {l:List α} {e:Nat→Int} {y:α} (h:jg e l.length 0=0) (hy:y ∈ l):∃ i,i<l.length∧l[i]! = y∧e i=0:=by
 obtain ⟨i,hi,rfl⟩:=List.getElem_of_mem hy
 exact ⟨i,hi,DC hi,GH h i (by omega) (by omega)⟩
theorem XR {nm:Nat→Str} {n:Nat} (h:∀ i,i<n→dup nm i (nm i)=false):∀ i j,i<n→j<n→nm i=nm j→i=j:=by
 have key:∀ i j,i<j→j<n→nm i≠nm j:=fun i j hij hj he=>by
  have:=(TQ nm (nm j) j).2 ⟨i,hij,he⟩
  rw [h j hj] at this;cases this
 intro i j hi hj he
 rcases Nat.lt_trichotomy i j with h1 | h1 | h1
 ·exact absurd he (key i j h1 hj)
 ·exact h1
 ·exact absurd he.symm (key j i h1 hi)
theorem eSp0 {p:GPermitPlan} {i:Nat} (h:eSp p i=0):mZ (MP p i)=true∧dup (MP p) i (MP p i)=false:=by
 unfold eSp at h
 split at h
 ·cases h
 ·rename_i h1
  split at h
  ·cases h
  ·rename_i h2;exact ⟨by simpa using h1,by simpa using h2⟩
theorem ePm0 {p:GPermitPlan} {i:Nat} (h:ePm p i=0):mZ (O0 p i)=true∧dup (O0 p) i (O0 p i)=false∧DI p.ak[i]!.Kind=true∧0≤p.ak[i]!.From∧p.ak[i]!.From<p.ak[i]!.To∧p.ak[i]!.To≤1000000∧uY p p.ak[i]!.Space=true:=by
 unfold ePm at h
 split at h
 ·cases h
 ·rename_i h1
  split at h
  ·cases h
  ·rename_i h2
   split at h
   ·cases h
   ·rename_i h3
    split at h
    ·cases h
    ·rename_i h4
     simp only [not_or] at h3
     refine ⟨by simpa using h1,by simpa using h2,by simpa using h3.1,by omega,by omega,by omega,by simpa using h4⟩
theorem okP {p:GPermitPlan} (h:yO p=0):EQ p:=by
 unfold yO at h
 split at h
 ·cases h
 rename_i hb
 split at h
 ·cases h
 rename_i hg
 obtain ⟨h1,h2⟩:=XQ h
 obtain ⟨h1,h3⟩:=XQ h1
 obtain ⟨h4,h5⟩:=XQ h2
 obtain ⟨h5,h6⟩:=XQ h5
 refine ⟨by omega,by omega,by omega,by omega,?_,?_,?_,?_,?_,?_,?_,?_⟩
 ·intro y hy;obtain ⟨i,hi,rfl,he⟩:=Gl h1 hy;exact (eSp0 he).1
 ·exact XR (nm:=MP p) fun i hi=>(eSp0 (GH h1 i (by omega) (by omega))).2
 ·intro y hy n hn
  obtain ⟨i,hi,rfl,he⟩:=Gl h3 hy
  obtain ⟨j,hj,rfl,he⟩:=Gl he hn
  unfold eNx at he
  split at he
  ·cases he
  ·rename_i a
   split at he
   ·cases he
   ·rename_i b;exact ⟨by simpa using a,b⟩
 ·intro y hy
  obtain ⟨i,hi,rfl,he⟩:=Gl h4 hy
  unfold eEx at he
  split at he
  ·cases he
  ·rename_i a;simp only [not_or] at a;exact ⟨by simpa using a.1,by simpa using a.2.1,by omega,by omega⟩
 ·intro y hy;obtain ⟨i,hi,rfl,he⟩:=Gl h5 hy;exact (ePm0 he).1
 ·exact XR (nm:=O0 p) fun i hi=>(ePm0 (GH h5 i (by omega) (by omega))).2.1
 ·intro y hy;obtain ⟨i,hi,rfl,he⟩:=Gl h5 hy;exact (ePm0 he).2.2
 ·intro y hy n hn
  obtain ⟨i,hi,rfl,he⟩:=Gl h6 hy
  obtain ⟨j,hj,rfl,he⟩:=Gl he hn
  unfold eLk at he
  split at he
  ·cases he
  ·rename_i a
   split at he
   ·cases he
   ·rename_i b;simp only [not_or] at b;exact ⟨by simpa using a,by simpa using b.1,b.2⟩
theorem EQ.sm {p:GPermitPlan} {N:Nat} (hp:FW p):FW p:=hp
theorem EQ.Fq {p:GPermitPlan} (h:EQ p) {x:aH} (hx:x ∈ p.ak):tK p x.Name=x:=by
 have h1:l9 p x.Name=true:=zL.2 ⟨x,hx,rfl⟩
 obtain ⟨h2,h3⟩:=AA h1
 obtain ⟨i,hi,he⟩:=List.getElem_of_mem h2
 obtain ⟨j,hj,hf⟩:=List.getElem_of_mem hx
 have:=h.pd i j hi hj (by rw [DC hi,DC hj,he,hf,h3])
 subst this
 rw [← he,hf]
theorem EQ.jJk {p:GPermitPlan} (h:EQ p) {x:dH} (hx:x ∈ p.bM):yN p x.Name=x:=by
 have h1:uY p x.Name=true:=Qm.2 ⟨x,hx,rfl⟩
 obtain ⟨h2,h3⟩:=MI h1
 obtain ⟨i,hi,he⟩:=List.getElem_of_mem h2
 obtain ⟨j,hj,hf⟩:=List.getElem_of_mem hx
 have:=h.sd i j hi hj (by rw [DC hi,DC hj,he,hf,h3])
 subst this
 rw [← he,hf]
theorem XT {α:Type} [Inhabited α] {g:α→Bool} {l:List α} (z:α) (h:l.any g=true):∃ i,i<l.length∧Hq g l=(i:Int)∧l[i]! = (BU z g l).1∧g l[i]! = true:=by
 rcases O1 (g:=g) (l:=l) with ⟨_,h1,h2⟩ | ⟨h1,h2⟩
 ·refine ⟨l.findIdx g,h1,DJ h1,?_,?_⟩
  ·unfold BU;rw [h2,DC h1]
  ·rw [DC h1];exact List.findIdx_getElem
 ·rw [List.any_eq_true] at h;obtain ⟨x,hx,hg⟩:=h
  exact absurd hg (by simpa using List.find?_eq_none.1 h2 x hx)
theorem ixS {p:GPermitPlan} {s:Str} (h:uY p s=true):∃ i,i<p.bM.length∧Hq (isS s) p.bM=(i:Int)∧p.bM[i]! = yN p s:=by
 obtain ⟨i,h1,h2,h3,_⟩:=XT (⟨[],false,[]⟩:dH) h
 exact ⟨i,h1,h2,h3⟩
theorem ixP {p:GPermitPlan} {s:Str} (h:l9 p s=true):∃ i,i<p.ak.length∧Hq (OY s) p.ak=(i:Int)∧p.ak[i]! = tK p s:=by
 obtain ⟨i,h1,h2,h3,_⟩:=XT (⟨[],0,[],0,0,[]⟩:aH) h
 exact ⟨i,h1,h2,h3⟩
def lI (p:GPermitPlan) (a b:Str):Int:=if a=b then 0 else bif FI (yN p a).Next b||FI (yN p b).Next a then 1 else 2
theorem Qp (p:GPermitPlan) (a b:Str):lI p a b=lI p b a:=by
 unfold lI
 by_cases h:a=b
 ·subst h;rfl
 ·rw [if_neg h,if_neg (fun x=>h x.symm),Bool.or_comm]
def exE (e:cZ) (d k m:Int):Bool:=decide (d≤e.Reach)&&((decide (e.A=k)&&decide (e.B=m))||(decide (e.A=m)&&decide (e.B=k)))
theorem jJc (e:cZ) (d k m:Int):exE e d k m=exE e d m k:=by unfold exE;rw [Bool.or_comm]
def yA (p:GPermitPlan) (x y:aH):Bool:=bif decide (x.Name=y.Name) then false else p.dY.any (fun e=>exE e (lI p x.Space y.Space) x.Kind y.Kind)
theorem Lm (p:GPermitPlan) (x y:aH):yA p x y=yA p y x:=by
 unfold yA
 rw [Qp p y.Space x.Space,show decide (y.Name=x.Name)=decide (x.Name=y.Name) from decide_eq_decide.2 ⟨Eq.symm,Eq.symm⟩]
 congr 2
 funext e
 exact jJc ..
def BQ (x:aH):Bool:=decide (x.Kind=0)||(decide (x.Kind=1)||decide (x.Kind=2))
def JC (p:GPermitPlan) (x:aH):List Str:=(bif BQ x&&(yN p x.Space).dD then [(yN p x.Space).Name] else []) ++ (bif decide (x.Kind=0) then (p.bM.filter (fun s=>s.dD&&decide (lI p s.Name (yN p x.Space).Name=1))).map (fun s=>s.Name) else [])
end Go.KB
namespace Go.KB
set_option linter.unusedVariables false
theorem A7 {α:Type} {xs ys:List α} (h:xs.length+ys.length≤lim):app xs ys=some (xs ++ ys):=by
 unfold app;rw [Nat.ble_eq_true_of_le h];rfl
theorem A8 {S O:Type} {n N:Nat} {f:S→Option (S ⊕ O)} (g:Nat→S) (r:O) (h:∀ i:Nat,i<n→f (g i)=some (.inl (g (i+1)))) (he:f (g n)=some (.inr r)) (hN:n<N):dX f N (g 0)=some r:=by
 have key:∀ k i,i+k=n→∀ M,k<M→dX f M (g i)=some r:=by
  intro k
  induction k with
  | zero =>
   intro i hi M hM
   obtain ⟨M,rfl⟩:∃ m,M=m+1:=⟨M - 1,by omega⟩
   have:i=n:=by omega
   subst this
   simp only [dX,he]
  | succ k ih =>
   intro i hi M hM
   obtain ⟨M,rfl⟩:∃ m,M=m+1:=⟨M - 1,by omega⟩
   simp only [dX,h i (by omega)]
   exact ih (i+1) (by omega) M (by omega)
 exact key n 0 (by omega) N (by omega)
theorem WY {S O α T:Type} {N:Nat} {f:S→Option (S ⊕ O)} (l:List α) (t0:T) (stp:T→α→T) (mk:T→Int→S) (out:T→O) (hf:∀ (i:Nat) (hi:i<l.length) (t:T),t=(l.take i).foldl stp t0→f (mk t (i:Int))=some (.inl (mk (stp t l[i]) ((i+1:Nat):Int)))) (he:∀ t,f (mk t (l.length:Int))=some (.inr (out t))) (hN:l.length<N):dX f N (mk t0 0)=some (out (l.foldl stp t0)):=by
 refine A8 (n:=l.length) (fun i=>mk ((l.take i).foldl stp t0) (i:Int)) _ (fun i hi=>?_) ?_ hN
 ·rw [hf i hi _ rfl,List.take_succ_eq_append_getElem hi,List.foldl_append];rfl
 ·rw [List.take_length];exact he _
theorem foldl_filter {α β : Type} (g : α → Bool) (h : α → β) : ∀ (l : List α) (a : List β), l.foldl (fun acc x => bif g x then acc ++ [h x] else acc) a = a ++ (l.filter g).map h
  | [],a=>by simp
  | x :: r,a=>by
    simp only [List.foldl_cons,foldl_filter g h r,List.filter_cons]
    cases g x <;> simp
theorem Yz {α β:Type} (g:α→Bool) (h:α→β):∀ (l:List α) (a:List β),(l.foldl (fun acc x=>bif g x then acc ++ [h x] else acc) a).length≤a.length+l.length:=fun l a=>by
 rw [foldl_filter,List.length_append,List.length_map]
 have:=List.length_filter_le g l
 omega
theorem CQ {S O α β:Type} {N:Nat} {f:S→Option (S ⊕ O)} (l:List α) (a:List β) (g:α→Bool) (h:α→β) (mk:List β→Int→S) (out:List β→O) (hf:∀ (i:Nat) (hi:i<l.length) (acc:List β),acc.length≤a.length+l.length→f (mk acc (i:Int))=some (.inl (mk (bif g l[i] then acc ++ [h l[i]] else acc) ((i+1:Nat):Int)))) (he:∀ t,f (mk t (l.length:Int))=some (.inr (out t))) (hN:l.length<N):dX f N (mk a 0)=some (out (a ++ (l.filter g).map h)):=by
 rw [WY (f:=f) l a (fun acc x=>bif g x then acc ++ [h x] else acc) mk out (fun i hi t ht=>?_) he hN,foldl_filter]
 refine hf i hi t ?_
 rw [ht]
 have:=Yz g h (l.take i) a
 rw [List.length_take] at this
 omega
theorem NK {α:Type} {l:List α} {a b:Nat} (h:a≤b) (hb:b≤l.length):OC l (a:Int) (b:Int)=some ((l.take b).drop a):=by
 unfold OC
 rw [dT (by omega),dT (by omega),dT (by omega)];rfl
theorem jJa {N:Nat} {f:(List Str×Int×Int)→Option ((List Str×Int×Int) ⊕ (List Str×Int))} {l:List Str} {g:Str→Bool} (hf:∀ (xs:List Str) (i j:Nat),(hj:j<xs.length)→i≤j→j<1000000→xs[j] ∈ l→f (xs,(i:Int),(j:Int))=bif !g xs[j] then some (.inl (xs.set i xs[j],((i+1:Nat):Int),((j+1:Nat):Int))) else some (.inl (xs,(i:Int),((j+1:Nat):Int)))) (he:∀ (xs:List Str) (i:Int),f (xs,i,(xs.length:Int))=some (.inr (xs,i))) (hl:l.length<1000000) (hN:1000000≤N) {i0:Nat} (h0:i0<l.length) (hi:l.findIdx g=i0) :
    ∃ xs,dX f N (l,(i0:Int),((i0+1:Nat):Int))=some (xs,((l.filter fun s=>!g s).length:Int))∧xs.length=l.length∧xs.take (l.filter fun s=>!g s).length=l.filter fun s=>!g s:=by
  have key:∀ k i j xs,j+k=l.length→i≤j→xs.length=l.length→xs.take i=(l.take j).filter (fun s=>!g s)→xs.drop j=l.drop j→i=((l.take j).filter (fun s=>!g s)).length→∀ M,k<M →
      ∃ ys,dX f M (xs,(i:Int),(j:Int))=some (ys,((l.filter fun s=>!g s).length:Int))∧ys.length=l.length∧ys.take (l.filter fun s=>!g s).length=l.filter fun s=>!g s:=by
    intro k
    induction k with
    | zero =>
      intro i j xs hj hij hx h1 h2 h3 M hM
      obtain ⟨M,rfl⟩:∃ m,M=m+1:=⟨M - 1,by omega⟩
      have:j=xs.length:=by omega
      subst this
      rw [hx,List.take_length] at h1 h3
      refine ⟨xs,?_,hx,by rw [← h3];exact h1⟩
      simp only [dX,he,h3]
    | succ k ih =>
      intro i j xs hj hij hx h1 h2 h3 M hM
      obtain ⟨M,rfl⟩:∃ m,M=m+1:=⟨M - 1,by omega⟩
      have hjx:j<xs.length:=by omega
      have hjl:j<l.length:=by omega
      have hxj:xs[j]=l[j]:=by
        have:=congrArg (fun l=>l[0]?) h2
        simp only [List.getElem?_drop,Nat.add_zero] at this
        rw [List.getElem?_eq_getElem hjx,List.getElem?_eq_getElem hjl] at this
        exact Option.some.inj this
      have hd:xs.drop (j+1)=l.drop (j+1):=by rw [← List.drop_drop,← List.drop_drop,h2]
      simp only [dX,hf xs i j hjx hij (by omega) (by rw [hxj];exact List.getElem_mem hjl)]
      rw [hxj]
      have htk:(l.take (j+1)).filter (fun s=>!g s)=(l.take j).filter (fun s=>!g s) ++ [l[j]].filter (fun s=>!g s):=by
        rw [List.take_succ_eq_append_getElem hjl,List.filter_append]
      cases hg:g l[j] with
      | false =>
        have hone:[l[j]].filter (fun s=>!g s)=[l[j]]:=by simp [hg]
        rw [hone] at htk
        simp only [Bool.not_false,lW]
        refine ih (i+1) (j+1) (xs.set i l[j]) (by omega) (by omega) (by simpa using hx) ?_ ?_ ?_ M (by omega)
        · rw [htk, ← h1, List.take_succ_eq_append_getElem (by simp; omega), List.take_set_of_le (Nat.le_refl _)]
          simp
        · rw [List.drop_set_of_lt (by omega)];exact hd
        · rw [htk,List.length_append,← h3];rfl
      | true =>
        have hone:[l[j]].filter (fun s=>!g s)=[]:=by simp [hg]
        rw [hone,List.append_nil] at htk
        simp only [Bool.not_true,mD]
        exact ih i (j+1) xs (by omega) (by omega) hx (by rw [htk];exact h1) hd (by rw [htk];exact h3) M (by omega)
  have hpre:(l.take i0).filter (fun s=>!g s)=l.take i0:=by
    refine List.filter_eq_self.2 fun a ha=>?_
    obtain ⟨j,hj,rfl⟩:=List.getElem_of_mem ha
    rw [List.length_take] at hj
    have:=List.not_of_lt_findIdx (p:=g) (xs:=l) (i:=j) (by omega)
    rw [List.getElem_take]
    simpa using this
  have hat:g l[i0]=true:=by subst hi;exact List.findIdx_getElem
  refine key (l.length - (i0+1)) i0 (i0+1) l (by omega) (by omega) rfl ?_ rfl ?_ N (by omega)
  · rw [List.take_succ_eq_append_getElem h0,List.filter_append,hpre];simp [hat]
  · rw [List.take_succ_eq_append_getElem h0,List.filter_append,hpre];simp [hat];omega
theorem del_eq {N:Nat} {f:(List Str×Int×Int)→Option ((List Str×Int×Int) ⊕ (List Str×Int))} {l:List Str} {g:Str→Bool} (hf:∀ (xs:List Str) (i j:Nat),(hj:j<xs.length)→i≤j→j<1000000→xs[j] ∈ l→f (xs,(i:Int),(j:Int))=bif !g xs[j] then some (.inl (xs.set i xs[j],((i+1:Nat):Int),((j+1:Nat):Int))) else some (.inl (xs,(i:Int),((j+1:Nat):Int)))) (he:∀ (xs:List Str) (i:Int),f (xs,i,(xs.length:Int))=some (.inr (xs,i))) (hl:l.length<1000000) (hN:1000000≤N) :
    (bif (aG .eql (Hq g l) (-1)) then (some l) else ((dX f N (l,Hq g l,(IntKind.i64.wrap (Hq g l+1)))).bind fun o8=>(OC o8.1 o8.2 (List.length o8.1:Int)).bind fun v10=>(bif Nat.beq ((Int.toNat o8.2)+(Int.toNat (List.length o8.1:Int) - Int.toNat o8.2)) (List.length o8.1) then some (List.take (Int.toNat o8.2) o8.1 ++ List.replicate (Int.toNat (List.length o8.1:Int) - Int.toNat o8.2) []) else none).bind fun v11=>(OC v11 0 o8.2).bind fun v12=>some v12))=some (l.filter fun s=>!g s):=by
  rw [jS]
  by_cases h:l.findIdx g<l.length
  · rw [DJ h, dF (by omega), mD, qX (by omega)]
    obtain ⟨xs,h1,h2,h3⟩:=jJa hf he hl hN h rfl
    rw [h1,bS]
    simp only []
    have hk:(l.filter fun s=>!g s).length≤xs.length:=by rw [h2];exact List.length_filter_le _ _
    generalize hkk:(l.filter fun s=>!g s).length=k at h3 hk
    rw [NK hk (Nat.le_refl _),bS,Int.toNat_natCast,Int.toNat_natCast,show Nat.beq (k+(xs.length - k)) xs.length=true from by rw [Nat.beq_eq];omega,lW,bS]
    have e0:OC (List.take k xs ++ List.replicate (xs.length - k) []) 0 (k:Int)=some (((List.take k xs ++ List.replicate (xs.length - k) []).take k).drop 0):=NK (a:=0) (Nat.zero_le _) (by simp;omega)
    rw [e0,bS,List.drop_zero,List.take_append_of_le_length (by simp;omega),List.take_take,Nat.min_self,h3]
  · rw [IA h,dT rfl,lW]
    congr 1
    refine (List.filter_eq_self.2 fun a ha=>?_).symm
    cases hg:g a with
    | false=>rfl
    | true=>exact absurd (List.findIdx_lt_length.2 ⟨a,ha,hg⟩) h
end Go.KB
namespace Go.KB
set_option linter.unusedVariables false
theorem QJ {N:Nat} {l:List Str} {s:Str} (hl:l.length<1000000) (hN:1000000≤N):iZ N l s=some (FI l s):=by
 unfold iZ rV
 have h:((dX (mP N l s) N 0).bind fun o5=>Sum.elim (fun l7=>some (-1:Int)) (fun r8=>some r8) o5)=some (Hq (fun x=>decide (s=x)) l):=by
  refine zT (fun i hi=>?_) ?_ (by omega)
  ·unfold mP
   rw [bU,dT (by omega),lW,jK hi,bS,ru,qX (by omega)]
  ·unfold mP
   rw [bU,dF (by omega),mD]
 rw [h,bS,CU]
 have:=Gy (g:=fun x=>decide (s=x)) (l:=l)
 unfold FI
 cases h2:l.any (fun x=>decide (s=x)) with
 | true=>rw [h2] at this;simp at this;rw [dT (by omega)]
 | false=>rw [h2] at this;simp at this;rw [dF (by omega)]
theorem QH {N:Nat} {l:List Int} {s:Int} (hl:l.length<1000000) (hN:1000000≤N):pK N l s=some (l.contains s):=by
 unfold pK vX
 have h:((dX (pJ N l s) N 0).bind fun o5=>Sum.elim (fun l7=>some (-1:Int)) (fun r8=>some r8) o5)=some (Hq (fun x=>decide (s=x)) l):=by
  refine zT (fun i hi=>?_) ?_ (by omega)
  ·unfold pJ
   rw [bU,dT (by omega),lW,jK hi,bS,jS,qX (by omega)]
  ·unfold pJ
   rw [bU,dF (by omega),mD]
 rw [h,bS,CU]
 have:=Gy (g:=fun x=>decide (s=x)) (l:=l)
 have e:l.contains s=l.any (fun x=>decide (s=x)):=by
  rw [Bool.eq_iff_iff,List.contains_iff_mem,List.any_eq_true];simp
 rw [e]
 cases h2:l.any (fun x=>decide (s=x)) with
 | true=>rw [h2] at this;simp at this;rw [dT (by omega)]
 | false=>rw [h2] at this;simp at this;rw [dF (by omega)]
theorem FW.next {p:GPermitPlan} (hp:FW p) (s:Str):(yN p s).Next.length<1000:=by
 unfold yN BU
 cases h:p.bM.find? (isS s) with
 | none=>simp
 | some y=>exact hp.n y (List.mem_of_find?_eq_some h)
theorem MN {N:Nat} {p:GPermitPlan} {a b:Str} (hp:FW p) (hN:1000000≤N):tN N p a b=some (lI p a b):=by
  unfold tN lI
  have hs:=hp.s
  have h1:=hp.next a
  have h2:=hp.next b
  rw [AB (by omega) hN,AB (by omega) hN,bS,bS,ru]
  by_cases h:a=b
  · rw [dT h,if_pos h];rfl
  · rw [dF h, if_neg h, mD, show iZ N (BU _ (isS a) p.bM).1.Next b = _ from QJ (by exact Nat.lt_trans h1 (by decide)) hN, show iZ N (BU _ (isS b) p.bM).1.Next a = _ from QJ (by exact Nat.lt_trans h2 (by decide)) hN, bS]
    show ((bif (!FI (yN p a).Next b) then some (FI (yN p b).Next a) else some false).bind fun v4=>bif (FI (yN p a).Next b||v4) then (some (1:Int)) else (some 2))=_
    cases FI (yN p a).Next b with
    | true=>rfl
    | false=>cases FI (yN p b).Next a <;> rfl
theorem jJp {N:Nat} {p:GPermitPlan} {x:aH} (hp:FW p) (hN:1000000≤N):Ap N p x=some (JC p x):=by
 unfold Ap JC
 have hs:=hp.s
 have hlim:lim ≥ 1000000:=by decide
 rw [AB (by omega) hN,bS]
 have hk:(bif (aG .eql x.Kind 0) then (some (aG .eql x.Kind 0)) else (bif (aG .eql x.Kind 1) then (some (aG .eql x.Kind 1)) else (some (aG .eql x.Kind 2))))=some (BQ x):=by
  unfold BQ
  simp only [jS]
  cases decide (x.Kind=0) <;> cases decide (x.Kind=1) <;> cases decide (x.Kind=2) <;> rfl
 rw [hk,bS]
 have ho:(bif BQ x then (bif (BU (⟨[],false,[]⟩:dH) (isS x.Space) p.bM).1.dD then ((app [] [(BU (⟨[],false,[]⟩:dH) (isS x.Space) p.bM).1.Name]).bind fun v6=>some v6) else (some [])) else (some []))=some (bif BQ x&&(yN p x.Space).dD then [(yN p x.Space).Name] else []):=by
  show (bif BQ x then (bif (yN p x.Space).dD then ((app [] [(yN p x.Space).Name]).bind fun v6=>some v6) else (some [])) else (some []))=_
  rw [A7 (by simp only [List.length_nil,List.length_singleton];omega)]
  cases BQ x <;> cases (yN p x.Space).dD <;> rfl
 rw [ho,bS,jS]
 by_cases h0:x.Kind=0
 ·rw [dT h0,lW,lW]
  rw [CQ (f:=vw N p (BU (⟨[],false,[]⟩:dH) (isS x.Space) p.bM)) p.bM _ (fun s=>s.dD&&decide (lI p s.Name (yN p x.Space).Name=1)) (fun s=>s.Name) (fun a i=>(a,i)) (fun a=>a) (fun i hi acc hacc=>?_) (fun acc=>?_) (by omega)]
  ·rfl
  ·have hacc':acc.length≤1+p.bM.length:=by
    refine Nat.le_trans hacc (Nat.add_le_add_right ?_ _)
    cases (BQ x&&(yN p x.Space).dD) <;> simp
   unfold vw
   simp only []
   rw [bU,dT (by omega),lW,jK hi,bS,MN hp hN,qX (by omega)]
   show ((bif p.bM[i].dD then some (lI p p.bM[i].Name (yN p x.Space).Name) else some 0).bind fun v13=>_)=_
   cases p.bM[i].dD with
   | false=>rfl
   | true =>
    rw [lW,bS,Bool.true_and,Bool.true_and,jS]
    cases decide (lI p p.bM[i].Name (yN p x.Space).Name=1) with
    | false=>rfl
    | true=>rw [lW,A7 (by simp only [List.length_singleton];omega)];rfl
  ·unfold vw
   simp only []
   rw [bU,dF (by omega),mD]
 ·rw [dF h0,mD,mD,List.append_nil]
theorem Qw {p:GPermitPlan} {x:aH} (hp:FW p):(JC p x).length<2000:=by
 have hs:=hp.s
 unfold JC
 rw [List.length_append]
 have h1:(bif BQ x&&(yN p x.Space).dD then [(yN p x.Space).Name] else []).length≤1:=by cases (BQ x&&(yN p x.Space).dD) <;> simp
 have h2:(bif decide (x.Kind=0) then (p.bM.filter (fun s=>s.dD&&decide (lI p s.Name (yN p x.Space).Name=1))).map (fun s=>s.Name) else []).length≤p.bM.length:=by
  cases decide (x.Kind=0) with
  | false=>exact Nat.zero_le _
  | true=>rw [lW,List.length_map];exact List.length_filter_le _ _
 omega
end Go.KB
namespace Go.KB
set_option linter.unusedVariables false
structure AO where
 now:Int
 es:Str→ah
 ts:Str→Option au
 pp:List (Str×Str)
 done:List GEvent
def stA (A:AO) (s:Str):Int:=(A.es s).state
def WS (A:AO) (n:Str) (e:ah):AO:={ A with es:=fun s=>bif decide (s=n) then e else A.es s }
def QS (A:AO) (n:Str) (k:Int):AO:=WS A n { A.es n with state:=k }
def Og (p:GPermitPlan) (A:AO) (s:Str):Bool:=bif !(yN p s).dD then true else match A.ts s with
 | none=>false
 | some t=>decide (A.now - t.at_≤p.gB)&&decide (195≤t.oK)&&decide (t.oK≤235)&&decide (t.Ro≤50)
def Oh (p:GPermitPlan) (A:AO) (s:Str):Bool:=bif !(yN p s).dD then true else match A.ts s with
 | none=>false
 | some t=>decide (A.now - t.at_≤p.gB)&&decide (195≤t.oK)&&decide (t.oK≤235)&&decide (t.Ro≤50)&&decide (t.Ro≤10)
def Fz (p:GPermitPlan) (A:AO) (x:aH) (s:Str):Bool:=bif decide (x.Kind=0) then Oh p A s else Og p A s
def BA (p:GPermitPlan) (A:AO) (x:aH):List Str:=(JC p x).filter fun s=>!Fz p A x s
def Fp (A:AO) (x:aH):List Str:=x.Locks.filter fun s=>!decide (stA A s=2)
def yP (p:GPermitPlan) (A:AO) (x:aH):Bool:=!(BA p A x).isEmpty || !(Fp A x).isEmpty
def BZ (now:Int) (e:ah):ah:=bif decide (e.state≤3)&&decide (e.zF≤now) then { e with state:=6 } else e
def BX (p:GPermitPlan) (A:AO):AO:={ A with es:=fun s=>bif l9 p s then BZ A.now (A.es s) else A.es s }
def zX (p:GPermitPlan) (A:AO):AO:={ A with es:=fun s=>bif l9 p s&&decide (stA A s=2)&&yP p A (tK p s) then { A.es s with state:=3 } else A.es s }
def iy (p:GPermitPlan) (A:AO):AO:=zX p (BX p A)
def nH (p:GPermitPlan) (A:AO) (so:aH→Bool):List Str:=(p.ak.filter fun x=>decide (stA A x.Name=2)&&so x).map fun x=>x.Name
def vG (A:AO) (so:Str→Bool):List Str:=(A.pp.filter fun q=>so q.2).map fun q=>q.1
def Eh (p:GPermitPlan) (A:AO) (x:aH):List bD :=
 (bif decide (A.now<x.From) then [(⟨2,[]⟩:bD)] else []) ++
 (([(⟨18,Fp A x⟩:bD),(⟨20,nH p A (fun y=>yA p y x)⟩:bD),(⟨21,BA p A x⟩:bD)] ++ (bif decide (x.Kind=3) then [(⟨17,vG A (fun s=>decide (lI p s x.Space≤1))⟩:bD)] else [])).filter fun r=>!r.Names.isEmpty)
def tu (p:GPermitPlan) (A:AO) (s:Str):Bool:=!(nH p A (fun y=>decide (y.Kind=1)&&decide (y.Space=s))).isEmpty
def Ku:List (Str×Str)→Str→Str→List (Str×Str)
 | [],n,s=>[(n,s)]
 | q :: r,n,s=>bif decide (q.1<n) then q :: Ku r n s else (n,s) :: q :: r
def xO (A:AO) (e:Int) (l:List Str):AO×List Str×Int:=(A,l,e)
def CV (A:AO):AO×List Str×Int:=(A,[],0)
def D6 (A:AO) (x:GEvent):AO×List Str×Int:=bif !mZ x.Person then xO A 4 [] else CV (WS A x.Name { A.es x.Name with state:=1,AU:=x.Person })
def Bl (p:GPermitPlan) (A:AO) (x:GEvent):AO×List Str×Int :=
 bif !mZ x.Person then xO A 4 [] else bif decide (x.Person=(A.es x.Name).AU) then xO A 26 [] else
 match Eh p A (tK p x.Name) with
 | r :: _=>xO A r.Err r.Names
 | []=>CV (QS A x.Name 2)
def CW (p:GPermitPlan) (A:AO) (x:GEvent):AO×List Str×Int :=
 let y:=tK p x.Name
 bif decide (y.Kind=5) && !(nH p A (fun z=>FI z.Locks y.Name)).isEmpty then xO A 20 (nH p A (fun z=>FI z.Locks y.Name)) else
 bif decide (y.Kind=1)&&decide (stA A y.Name=2)&&(yN p y.Space).dD&&(nH p A (fun z=>decide (z.Kind=1)&&decide (z.Space=y.Space) && !decide (z.Name=y.Name))).isEmpty && !(vG A (fun s=>decide (s=y.Space))).isEmpty then xO A 21 (vG A (fun s=>decide (s=y.Space))) else
 CV (QS A x.Name 4)
def Vb (p:GPermitPlan) (A:AO) (x:GEvent):AO×List Str×Int :=
 bif !uY p x.Space then xO A 6 [] else bif decide (x.qx<0)||decide (1000<x.qx)||decide (x.IW<0)||decide (1000<x.IW) then xO A 2 [] else
 CV { A with ts:=fun s=>bif decide (s=x.Space) then some ⟨A.now,x.qx,x.IW⟩ else A.ts s }
def Bc (A:AO) (n:Str):Bool:=A.pp.any fun q=>decide (q.1=n)
def JI (p:GPermitPlan) (A:AO) (x:GEvent):AO×List Str×Int :=
 bif !mZ x.Person then xO A 4 [] else bif !uY p x.Space then xO A 6 [] else bif Bc A x.Person then xO A 18 [] else
 bif (yN p x.Space).dD && !tu p A x.Space then xO A 21 [] else
 bif !(nH p A (fun y=>decide (y.Kind=3)&&decide (lI p y.Space x.Space≤1))).isEmpty then xO A 17 (nH p A (fun y=>decide (y.Kind=3)&&decide (lI p y.Space x.Space≤1))) else
 CV { A with pp:=Ku A.pp x.Person x.Space }
def JH (A:AO) (x:GEvent):AO×List Str×Int :=
 bif !mZ x.Person then xO A 4 [] else bif !Bc A x.Person then xO A 6 [] else CV { A with pp:=A.pp.filter fun q=>!decide (q.1=x.Person) }
def JG (p:GPermitPlan) (A:AO) (x:GEvent):AO×List Str×Int :=
 bif !uY p x.Space then xO A 6 [] else
 CV { A with es:=fun s=>bif l9 p s&&decide (stA A s=2)&&(!decide ((tK p s).Kind=5)&&decide (lI p (tK p s).Space x.Space≤1)) then { A.es s with state:=3 } else A.es s }
def Gj (A:AO) (x:GEvent):AO×List Str×Int :=
 bif !mZ x.Person then xO A 4 [] else bif decide (x.To≤(A.es x.Name).zF)||decide (1000000<x.To) then xO A 2 [] else CV (WS A x.Name { A.es x.Name with zF:=x.To })
def yD (op:Int):Option (List Int):=if op=1 then some [0] else if op=2 then some [1] else if op=3 then some [2] else if op=4 then some [3] else if op=5 then some [2,3] else if op=6 then some [0,1] else if op=11 then some [1,2,3] else none
def xN (p:GPermitPlan) (A:AO) (x:GEvent):AO×List Str×Int :=
 if x.Op=0 then CV A else if x.Op=1 then D6 A x else if x.Op=2 then Bl p A x else if x.Op=3 then CV (QS A x.Name 3) else if x.Op=4 then Bl p A x else
 if x.Op=5 then CW p A x else if x.Op=6 then CV (QS A x.Name 5) else if x.Op=7 then Vb p A x else if x.Op=8 then JI p A x else if x.Op=9 then JH A x else
 if x.Op=10 then JG p A x else Gj A x
def yh (p:GPermitPlan) (A:AO) (x:GEvent):AO×List Str×Int :=
 match yD x.Op with
 | none=>xN p A x
 | some l=>bif !l9 p x.Name then xO A 6 [] else bif !l.contains (stA A x.Name) then xO A 18 [] else xN p A x
def OX (p:GPermitPlan) (A:AO) (x:GEvent):AO×List Str×Int :=
 bif decide (x.Op<0)||decide (12≤x.Op)||decide (x.At<0)||decide (1000000<x.At) then xO A 2 [] else bif decide (x.At<A.now) then xO A 10 [] else
 let r:=yh p (iy p { A with now:=x.At }) x
 bif decide (r.2.2=0) then ({ iy p r.1 with done:=A.done ++ [x] },[],0) else r
def Qk (p:GPermitPlan):AO:=iy p ⟨0,fun s=>bif l9 p s then ⟨0,[],(tK p s).To⟩ else ⟨0,[],0⟩,fun _=>none,[],[]⟩
end Go.KB
