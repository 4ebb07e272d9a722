/- Plain laws of chapter 7: what a valid plan is, nearness, exclusion, needs. Plain laws of chapter 7: loops that filter, find and delete. Plain laws of chapter 7: near and needs of the program. Plain laws of chapter 7: what an office does, by names. No condition. -/
import Derived.Test.YtalkbgomndhkmaaGreatPZl
namespace Go.KB
set_option linter.unusedVariables false
def MV (l:List Str) (s:Str):Bool:=l.any (fun x=>decide (s=x))
theorem QO {l:List Str} {s:Str}:MV l s=true↔s ∈ l:=by
 unfold MV;rw [List.any_eq_true]
 constructor
 ·rintro ⟨x,h1,h2⟩;rw [decide_eq_true_eq] at h2;rw [h2];exact h1
 ·intro h;exact ⟨s,h,by simp⟩
theorem Ox {p:GPermitPlan} {s:Str}:Ep p s=true↔∃ y ∈ p.ay,y.Name=s:=by
 unfold Ep;rw [List.any_eq_true];simp [MO]
theorem Qc {α:Type} {z:α} {g:α→Bool} {l:List α} (h:l.any g=true):(zk z g l).1 ∈ l∧g (zk z g l).1=true:=by
 unfold zk
 cases h2:l.find? g with
 | none=>rw [List.any_eq_true] at h;obtain ⟨x,hx,hg⟩:=h;exact absurd hg (by simpa using List.find?_eq_none.1 h2 x hx)
 | some y=>exact ⟨List.mem_of_find?_eq_some h2,List.find?_some h2⟩
theorem GI {p:GPermitPlan} {s:Str} (h:Ep p s=true):Qa p s ∈ p.ay∧(Qa p s).Name=s:=by
 have:=Qc (z:=(⟨[],0,[],0,0,[]⟩:aF)) h
 exact ⟨this.1,of_decide_eq_true this.2⟩
structure RJ (p:GPermitPlan):Prop where
 ns:p.bU.length≤30
 ne:p.dm.length≤30
 np:p.ay.length≤20
 gm:1≤p.dX∧p.dX≤10000
 sn:∀ y ∈ p.bU,oW y.Name=true
 sd:∀ i j,i<p.bU.length→j<p.bU.length→p.bU[i]!.Name=p.bU[j]!.Name→i=j
 nx:∀ y ∈ p.bU,∀ n ∈ y.Next,Es p n=true∧n≠y.Name
 xk:∀ e ∈ p.dm,yL e.A=true∧yL e.B=true∧0≤e.Reach∧e.Reach≤2
 pn:∀ y ∈ p.ay,oW y.Name=true
 pd:∀ i j,i<p.ay.length→j<p.ay.length→p.ay[i]!.Name=p.ay[j]!.Name→i=j
 pk:∀ y ∈ p.ay,yL y.Kind=true∧0≤y.From∧y.From<y.To∧y.To≤1000000∧Es p y.Space=true
 lk:∀ y ∈ p.ay,∀ l ∈ y.Locks,Ep p l=true∧(Qa p l).Kind=5∧y.Kind≠5
theorem QT {a b:Int} (h:Et a b=0):a=0∧b=0:=by
 unfold Et at h
 by_cases h0:a=0
 ·rw [if_pos h0] at h;exact ⟨h0,h⟩
 ·rw [if_neg h0] at h;exact absurd h h0
theorem BA {α:Type} [Inhabited α] {l:List α} {e:Nat→Int} {y:α} (h:fG e l.length 0=0) (hy:y ∈ l):∃ i,i<l.length∧l[i]! = y∧e i=0:=by
 obtain ⟨i,hi,rfl⟩:=List.getElem_of_mem hy
 exact ⟨i,hi,xR hi,BN h i (by omega) (by omega)⟩
theorem QU {nm:Nat→Str} {n:Nat} (h:∀ i,i<n→dup nm i (nm i)=false):∀ i j,i<n→j<n→nm i=nm j→i=j:=by
 have key:∀ i j,i<j→j<n→nm i≠nm j:=fun i j hij hj he=>by
  have:=(MP nm (nm j) j).2 ⟨i,hij,he⟩
  rw [h j hj] at this;cases this
 intro i j hi hj he
 rcases Nat.lt_trichotomy i j with h1 | h1 | h1
 ·exact absurd he (key i j h1 hj)
 ·exact h1
 ·exact absurd he.symm (key j i h1 hi)
theorem eSp0 {p:GPermitPlan} {i:Nat} (h:UO p i=0):oW (GL p i)=true∧dup (GL p) i (GL p i)=false:=by
 unfold UO at h
 split at h
 ·cases h
 ·rename_i h1
  split at h
  ·cases h
  ·rename_i h2;exact ⟨by simpa using h1,by simpa using h2⟩
theorem X0 {p:GPermitPlan} {i:Nat} (h:V8 p i=0):oW (IU p i)=true∧dup (IU p) i (IU p i)=false∧yL p.ay[i]!.Kind=true∧0≤p.ay[i]!.From∧p.ay[i]!.From<p.ay[i]!.To∧p.ay[i]!.To≤1000000∧Es p p.ay[i]!.Space=true:=by
 unfold V8 at h
 split at h
 ·cases h
 ·rename_i h1
  split at h
  ·cases h
  ·rename_i h2
   split at h
   ·cases h
   ·rename_i h3
    split at h
    ·cases h
    ·rename_i h4
     simp only [not_or] at h3
     refine ⟨by simpa using h1,by simpa using h2,by simpa using h3.1,by omega,by omega,by omega,by simpa using h4⟩
theorem okP {p:GPermitPlan} (h:oz p=0):RJ p:=by
 unfold oz at h
 split at h
 ·cases h
 rename_i hb
 split at h
 ·cases h
 rename_i hg
 obtain ⟨h1,h2⟩:=QT h
 obtain ⟨h1,h3⟩:=QT h1
 obtain ⟨h4,h5⟩:=QT h2
 obtain ⟨h5,h6⟩:=QT h5
 refine ⟨by omega,by omega,by omega,by omega,?_,?_,?_,?_,?_,?_,?_,?_⟩
 ·intro y hy;obtain ⟨i,hi,rfl,he⟩:=BA h1 hy;exact (eSp0 he).1
 ·exact QU (nm:=GL p) fun i hi=>(eSp0 (BN h1 i (by omega) (by omega))).2
 ·intro y hy n hn
  obtain ⟨i,hi,rfl,he⟩:=BA h3 hy
  obtain ⟨j,hj,rfl,he⟩:=BA he hn
  unfold eNx at he
  split at he
  ·cases he
  ·rename_i a
   split at he
   ·cases he
   ·rename_i b;exact ⟨by simpa using a,b⟩
 ·intro y hy
  obtain ⟨i,hi,rfl,he⟩:=BA h4 hy
  unfold eEx at he
  split at he
  ·cases he
  ·rename_i a;simp only [not_or] at a;exact ⟨by simpa using a.1,by simpa using a.2.1,by omega,by omega⟩
 ·intro y hy;obtain ⟨i,hi,rfl,he⟩:=BA h5 hy;exact (X0 he).1
 ·exact QU (nm:=IU p) fun i hi=>(X0 (BN h5 i (by omega) (by omega))).2.1
 ·intro y hy;obtain ⟨i,hi,rfl,he⟩:=BA h5 hy;exact (X0 he).2.2
 ·intro y hy n hn
  obtain ⟨i,hi,rfl,he⟩:=BA h6 hy
  obtain ⟨j,hj,rfl,he⟩:=BA he hn
  unfold eLk at he
  split at he
  ·cases he
  ·rename_i a
   split at he
   ·cases he
   ·rename_i b;simp only [not_or] at b;exact ⟨by simpa using a,by simpa using b.1,b.2⟩
theorem RJ.sm {p:GPermitPlan} {N:Nat} (hp:J4 p):J4 p:=hp
theorem RJ.UN {p:GPermitPlan} (h:RJ p) {x:aF} (hx:x ∈ p.ay):Qa p x.Name=x:=by
 have h1:Ep p x.Name=true:=Ox.2 ⟨x,hx,rfl⟩
 obtain ⟨h2,h3⟩:=GI h1
 obtain ⟨i,hi,he⟩:=List.getElem_of_mem h2
 obtain ⟨j,hj,hf⟩:=List.getElem_of_mem hx
 have:=h.pd i j hi hj (by rw [xR hi,xR hj,he,hf,h3])
 subst this
 rw [← he,hf]
theorem QV {α:Type} [Inhabited α] {g:α→Bool} {l:List α} (z:α) (h:l.any g=true):∃ i,i<l.length∧Ik g l=(i:Int)∧l[i]! = (zk z g l).1∧g l[i]! = true:=by
 rcases IV (g:=g) (l:=l) with ⟨_,h1,h2⟩ | ⟨h1,h2⟩
 ·refine ⟨l.findIdx g,h1,BB h1,?_,?_⟩
  ·unfold zk;rw [h2,xR h1]
  ·rw [xR h1];exact List.findIdx_getElem
 ·rw [List.any_eq_true] at h;obtain ⟨x,hx,hg⟩:=h
  exact absurd hg (by simpa using List.find?_eq_none.1 h2 x hx)
theorem ixS {p:GPermitPlan} {s:Str} (h:Es p s=true):∃ i,i<p.bU.length∧Ik (isS s) p.bU=(i:Int)∧p.bU[i]! = QS p s:=by
 obtain ⟨i,h1,h2,h3,_⟩:=QV (⟨[],false,[]⟩:bV) h
 exact ⟨i,h1,h2,h3⟩
theorem ixP {p:GPermitPlan} {s:Str} (h:Ep p s=true):∃ i,i<p.ay.length∧Ik (MO s) p.ay=(i:Int)∧p.ay[i]! = Qa p s:=by
 obtain ⟨i,h1,h2,h3,_⟩:=QV (⟨[],0,[],0,0,[]⟩:aF) h
 exact ⟨i,h1,h2,h3⟩
def GH (p:GPermitPlan) (a b:Str):Int:=if a=b then 0 else bif MV (QS p a).Next b||MV (QS p b).Next a then 1 else 2
theorem Qd (p:GPermitPlan) (a b:Str):GH p a b=GH p b a:=by
 unfold GH
 by_cases h:a=b
 ·subst h;rfl
 ·rw [if_neg h,if_neg (fun x=>h x.symm),Bool.or_comm]
def XW (e:bG) (d k m:Int):Bool:=decide (d≤e.Reach)&&((decide (e.A=k)&&decide (e.B=m))||(decide (e.A=m)&&decide (e.B=k)))
theorem UQ (e:bG) (d k m:Int):XW e d k m=XW e d m k:=by unfold XW;rw [Bool.or_comm]
def wE (p:GPermitPlan) (x y:aF):Bool:=bif decide (x.Name=y.Name) then false else p.dm.any (fun e=>XW e (GH p x.Space y.Space) x.Kind y.Kind)
theorem JH (p:GPermitPlan) (x y:aF):wE p x y=wE p y x:=by
 unfold wE
 rw [Qd p y.Space x.Space,show decide (y.Name=x.Name)=decide (x.Name=y.Name) from decide_eq_decide.2 ⟨Eq.symm,Eq.symm⟩]
 congr 2
 funext e
 exact UQ ..
theorem JI (p:GPermitPlan) (x:aF):wE p x x=false:=by unfold wE;simp
end Go.KB
namespace Go.KB
set_option linter.unusedVariables false
theorem Iz {α:Type} {xs ys:List α} (h:xs.length+ys.length≤lim):app xs ys=some (xs ++ ys):=by
 unfold app;rw [Nat.ble_eq_true_of_le h];rfl
theorem Sm {S O:Type} {n N:Nat} {f:S→Option (S ⊕ O)} (g:Nat→S) (r:O) (h:∀ i:Nat,i<n→f (g i)=some (.inl (g (i+1)))) (he:f (g n)=some (.inr r)) (hN:n<N):dh f N (g 0)=some r:=by
 have key:∀ k i,i+k=n→∀ M,k<M→dh f M (g i)=some r:=by
  intro k
  induction k with
  | zero =>
   intro i hi M hM
   obtain ⟨M,rfl⟩:∃ m,M=m+1:=⟨M - 1,by omega⟩
   have:i=n:=by omega
   subst this
   simp only [dh,he]
  | succ k ih =>
   intro i hi M hM
   obtain ⟨M,rfl⟩:∃ m,M=m+1:=⟨M - 1,by omega⟩
   simp only [dh,h i (by omega)]
   exact ih (i+1) (by omega) M (by omega)
 exact key n 0 (by omega) N (by omega)
theorem yJ {S O α T:Type} {N:Nat} {f:S→Option (S ⊕ O)} (l:List α) (t0:T) (stp:T→α→T) (mk:T→Int→S) (out:T→O) (hf:∀ (i:Nat) (hi:i<l.length) (t:T),t=(l.take i).foldl stp t0→f (mk t (i:Int))=some (.inl (mk (stp t l[i]) ((i+1:Nat):Int)))) (he:∀ t,f (mk t (l.length:Int))=some (.inr (out t))) (hN:l.length<N):dh f N (mk t0 0)=some (out (l.foldl stp t0)):=by
 refine Sm (n:=l.length) (fun i=>mk ((l.take i).foldl stp t0) (i:Int)) _ (fun i hi=>?_) ?_ hN
 ·rw [hf i hi _ rfl,List.take_succ_eq_append_getElem hi,List.foldl_append];rfl
 ·rw [List.take_length];exact he _
theorem foldl_filter {α β : Type} (g : α → Bool) (h : α → β) : ∀ (l : List α) (a : List β), l.foldl (fun acc x => bif g x then acc ++ [h x] else acc) a = a ++ (l.filter g).map h
  | [],a=>by simp
  | x :: r,a=>by
    simp only [List.foldl_cons,foldl_filter g h r,List.filter_cons]
    cases g x <;> simp
theorem Sr {α β:Type} (g:α→Bool) (h:α→β):∀ (l:List α) (a:List β),(l.foldl (fun acc x=>bif g x then acc ++ [h x] else acc) a).length≤a.length+l.length:=fun l a=>by
 rw [foldl_filter,List.length_append,List.length_map]
 have:=List.length_filter_le g l
 omega
theorem EK {S O α β:Type} {N:Nat} {f:S→Option (S ⊕ O)} (l:List α) (a:List β) (g:α→Bool) (h:α→β) (mk:List β→Int→S) (out:List β→O) (hf:∀ (i:Nat) (hi:i<l.length) (acc:List β),acc.length≤a.length+l.length→f (mk acc (i:Int))=some (.inl (mk (bif g l[i] then acc ++ [h l[i]] else acc) ((i+1:Nat):Int)))) (he:∀ t,f (mk t (l.length:Int))=some (.inr (out t))) (hN:l.length<N):dh f N (mk a 0)=some (out (a ++ (l.filter g).map h)):=by
 rw [yJ (f:=f) l a (fun acc x=>bif g x then acc ++ [h x] else acc) mk out (fun i hi t ht=>?_) he hN,foldl_filter]
 refine hf i hi t ?_
 rw [ht]
 have:=Sr g h (l.take i) a
 rw [List.length_take] at this
 omega
theorem XY {α:Type} {l:List α} {a b:Nat} (h:a≤b) (hb:b≤l.length):SE l (a:Int) (b:Int)=some ((l.take b).drop a):=by
 unfold SE
 rw [dT (by omega),dT (by omega),dT (by omega)];rfl
end Go.KB
namespace Go.KB
set_option linter.unusedVariables false
theorem OB {N:Nat} {l:List Str} {s:Str} (hl:l.length<1000000) (hN:1000000≤N):fC N l s=some (MV l s):=by
 unfold fC mV
 have h:((dh (jc N l s) N 0).bind fun o5=>Sum.elim (fun l7=>some (-1:Int)) (fun r8=>some r8) o5)=some (Ik (fun x=>decide (s=x)) l):=by
  refine wC (fun i hi=>?_) ?_ (by omega)
  ·unfold jc
   rw [bP,dT (by omega),qZ,iZ hi,bS,uH,pI (by omega)]
  ·unfold jc
   rw [bP,dF (by omega),qg]
 rw [h,bS,Bz]
 have:=DL (g:=fun x=>decide (s=x)) (l:=l)
 unfold MV
 cases h2:l.any (fun x=>decide (s=x)) with
 | true=>rw [h2] at this;simp at this;rw [dT (by omega)]
 | false=>rw [h2] at this;simp at this;rw [dF (by omega)]
theorem UK {N:Nat} {l:List Int} {s:Int} (hl:l.length<1000000) (hN:1000000≤N):jT N l s=some (l.contains s):=by
 unfold jT qE
 have h:((dh (jS N l s) N 0).bind fun o5=>Sum.elim (fun l7=>some (-1:Int)) (fun r8=>some r8) o5)=some (Ik (fun x=>decide (s=x)) l):=by
  refine wC (fun i hi=>?_) ?_ (by omega)
  ·unfold jS
   rw [bP,dT (by omega),qZ,iZ hi,bS,uU,pI (by omega)]
  ·unfold jS
   rw [bP,dF (by omega),qg]
 rw [h,bS,Bz]
 have:=DL (g:=fun x=>decide (s=x)) (l:=l)
 have e:l.contains s=l.any (fun x=>decide (s=x)):=by
  rw [Bool.eq_iff_iff,List.contains_iff_mem,List.any_eq_true];simp
 rw [e]
 cases h2:l.any (fun x=>decide (s=x)) with
 | true=>rw [h2] at this;simp at this;rw [dT (by omega)]
 | false=>rw [h2] at this;simp at this;rw [dF (by omega)]
theorem J4.next {p:GPermitPlan} (hp:J4 p) (s:Str):(QS p s).Next.length<1000:=by
 unfold QS zk
 cases h:p.bU.find? (isS s) with
 | none=>simp
 | some y=>exact hp.n y (List.mem_of_find?_eq_some h)
theorem VL {N:Nat} {p:GPermitPlan} {a b:Str} (hp:J4 p) (hN:1000000≤N):nS N p a b=some (GH p a b):=by
  unfold nS GH
  have hs:=hp.s
  have h1:=hp.next a
  have h2:=hp.next b
  rw [FU (by omega) hN,FU (by omega) hN,bS,bS,uH]
  by_cases h:a=b
  · rw [dT h,if_pos h];rfl
  · rw [dF h, if_neg h, qg, show fC N (zk _ (isS a) p.bU).1.Next b = _ from OB (by exact Nat.lt_trans h1 (by decide)) hN, show fC N (zk _ (isS b) p.bU).1.Next a = _ from OB (by exact Nat.lt_trans h2 (by decide)) hN, bS]
    show ((bif (!MV (QS p a).Next b) then some (MV (QS p b).Next a) else some false).bind fun v4=>bif (MV (QS p a).Next b||v4) then (some (1:Int)) else (some 2))=_
    cases MV (QS p a).Next b with
    | true=>rfl
    | false=>cases MV (QS p b).Next a <;> rfl
end Go.KB
namespace Go.KB
set_option linter.unusedVariables false
structure AO where
 now:Int
 es:Str→ah
 ts:Str→Option ak
 pp:List (Str×Str)
 done:List bQ
def stA (A:AO) (s:Str):Int:=(A.es s).state
end Go.KB
