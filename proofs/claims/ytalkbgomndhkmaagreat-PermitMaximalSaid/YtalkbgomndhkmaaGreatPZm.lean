/- Plain laws of chapter 7: what a valid plan is, nearness, exclusion, needs. Plain laws of chapter 7: loops that filter, find and delete. Plain laws of chapter 7: near and needs of the program. Plain laws of chapter 7: what an office does, by names. No condition. -/
import Derived.Test.YtalkbgomndhkmaaGreatPZl
namespace Go.KB
set_option linter.unusedVariables false
def Q7 (l:List Str) (s:Str):Bool:=l.any (fun x=>decide (s=x))
theorem U7 {l:List Str} {s:Str}:Q7 l s=true↔s ∈ l:=by
 unfold Q7;rw [List.any_eq_true]
 constructor
 ·rintro ⟨x,h1,h2⟩;rw [decide_eq_true_eq] at h2;rw [h2];exact h1
 ·intro h;exact ⟨s,h,by simp⟩
theorem Fz {p:GPermitPlan} {s:Str}:zn p s=true↔∃ y ∈ p.ay,y.Name=s:=by
 unfold zn;rw [List.any_eq_true];simp [LW]
theorem O8 {α:Type} {z:α} {g:α→Bool} {l:List α} (h:l.any g=true):(zU z g l).1 ∈ l∧g (zU z g l).1=true:=by
 unfold zU
 cases h2:l.find? g with
 | none=>rw [List.any_eq_true] at h;obtain ⟨x,hx,hg⟩:=h;exact absurd hg (by simpa using List.find?_eq_none.1 h2 x hx)
 | some y=>exact ⟨List.mem_of_find?_eq_some h2,List.find?_some h2⟩
theorem Jd {p:GPermitPlan} {s:Str} (h:zn p s=true):LJ p s ∈ p.ay∧(LJ p s).Name=s:=by
 have:=O8 (z:=(⟨[],0,[],0,0,[]⟩:aC)) h
 exact ⟨this.1,of_decide_eq_true this.2⟩
structure Us (p:GPermitPlan):Prop where
 ns:p.bU.length≤30
 ne:p.cZ.length≤30
 np:p.ay.length≤20
 gm:1≤p.dU∧p.dU≤10000
 sn:∀ y ∈ p.bU,oL y.Name=true
 sd:∀ i j,i<p.bU.length→j<p.bU.length→p.bU[i]!.Name=p.bU[j]!.Name→i=j
 nx:∀ y ∈ p.bU,∀ n ∈ y.Next,Gu p n=true∧n≠y.Name
 xk:∀ e ∈ p.cZ,xU e.A=true∧xU e.B=true∧0≤e.Reach∧e.Reach≤2
 pn:∀ y ∈ p.ay,oL y.Name=true
 pd:∀ i j,i<p.ay.length→j<p.ay.length→p.ay[i]!.Name=p.ay[j]!.Name→i=j
 pk:∀ y ∈ p.ay,xU y.Kind=true∧0≤y.From∧y.From<y.To∧y.To≤1000000∧Gu p y.Space=true
 lk:∀ y ∈ p.ay,∀ l ∈ y.Locks,zn p l=true∧(LJ p l).Kind=5∧y.Kind≠5
theorem Qc {a b:Int} (h:DF a b=0):a=0∧b=0:=by
 unfold DF at h
 by_cases h0:a=0
 ·rw [if_pos h0] at h;exact ⟨h0,h⟩
 ·rw [if_neg h0] at h;exact absurd h h0
theorem zo {α:Type} [Inhabited α] {l:List α} {e:Nat→Int} {y:α} (h:dZ e l.length 0=0) (hy:y ∈ l):∃ i,i<l.length∧l[i]! = y∧e i=0:=by
 obtain ⟨i,hi,rfl⟩:=List.getElem_of_mem hy
 exact ⟨i,hi,AY hi,x9 h i (by omega) (by omega)⟩
theorem Qd {nm:Nat→Str} {n:Nat} (h:∀ i,i<n→dup nm i (nm i)=false):∀ i j,i<n→j<n→nm i=nm j→i=j:=by
 have key:∀ i j,i<j→j<n→nm i≠nm j:=fun i j hij hj he=>by
  have:=(LM nm (nm j) j).2 ⟨i,hij,he⟩
  rw [h j hj] at this;cases this
 intro i j hi hj he
 rcases Nat.lt_trichotomy i j with h1 | h1 | h1
 ·exact absurd he (key i j h1 hj)
 ·exact h1
 ·exact absurd he.symm (key j i h1 hi)
theorem eSp0 {p:GPermitPlan} {i:Nat} (h:Ub p i=0):oL (FI p i)=true∧dup (FI p) i (FI p i)=false:=by
 unfold Ub at h
 split at h
 ·cases h
 ·rename_i h1
  split at h
  ·cases h
  ·rename_i h2;exact ⟨by simpa using h1,by simpa using h2⟩
theorem Xx {p:GPermitPlan} {i:Nat} (h:Vz p i=0):oL (Hw p i)=true∧dup (Hw p) i (Hw p i)=false∧xU p.ay[i]!.Kind=true∧0≤p.ay[i]!.From∧p.ay[i]!.From<p.ay[i]!.To∧p.ay[i]!.To≤1000000∧Gu p p.ay[i]!.Space=true:=by
 unfold Vz at h
 split at h
 ·cases h
 ·rename_i h1
  split at h
  ·cases h
  ·rename_i h2
   split at h
   ·cases h
   ·rename_i h3
    split at h
    ·cases h
    ·rename_i h4
     simp only [not_or] at h3
     refine ⟨by simpa using h1,by simpa using h2,by simpa using h3.1,by omega,by omega,by omega,by simpa using h4⟩
theorem okP {p:GPermitPlan} (h:lC p=0):Us p:=by
 unfold lC at h
 split at h
 ·cases h
 rename_i hb
 split at h
 ·cases h
 rename_i hg
 obtain ⟨h1,h2⟩:=Qc h
 obtain ⟨h1,h3⟩:=Qc h1
 obtain ⟨h4,h5⟩:=Qc h2
 obtain ⟨h5,h6⟩:=Qc h5
 refine ⟨by omega,by omega,by omega,by omega,?_,?_,?_,?_,?_,?_,?_,?_⟩
 ·intro y hy;obtain ⟨i,hi,rfl,he⟩:=zo h1 hy;exact (eSp0 he).1
 ·exact Qd (nm:=FI p) fun i hi=>(eSp0 (x9 h1 i (by omega) (by omega))).2
 ·intro y hy n hn
  obtain ⟨i,hi,rfl,he⟩:=zo h3 hy
  obtain ⟨j,hj,rfl,he⟩:=zo he hn
  unfold eNx at he
  split at he
  ·cases he
  ·rename_i a
   split at he
   ·cases he
   ·rename_i b;exact ⟨by simpa using a,b⟩
 ·intro y hy
  obtain ⟨i,hi,rfl,he⟩:=zo h4 hy
  unfold eEx at he
  split at he
  ·cases he
  ·rename_i a;simp only [not_or] at a;exact ⟨by simpa using a.1,by simpa using a.2.1,by omega,by omega⟩
 ·intro y hy;obtain ⟨i,hi,rfl,he⟩:=zo h5 hy;exact (Xx he).1
 ·exact Qd (nm:=Hw p) fun i hi=>(Xx (x9 h5 i (by omega) (by omega))).2.1
 ·intro y hy;obtain ⟨i,hi,rfl,he⟩:=zo h5 hy;exact (Xx he).2.2
 ·intro y hy n hn
  obtain ⟨i,hi,rfl,he⟩:=zo h6 hy
  obtain ⟨j,hj,rfl,he⟩:=zo he hn
  unfold eLk at he
  split at he
  ·cases he
  ·rename_i a
   split at he
   ·cases he
   ·rename_i b;simp only [not_or] at b;exact ⟨by simpa using a,by simpa using b.1,b.2⟩
theorem Us.sm {p:GPermitPlan} {N:Nat} (hp:LV p):LV p:=hp
theorem Us.TY {p:GPermitPlan} (h:Us p) {x:aC} (hx:x ∈ p.ay):LJ p x.Name=x:=by
 have h1:zn p x.Name=true:=Fz.2 ⟨x,hx,rfl⟩
 obtain ⟨h2,h3⟩:=Jd h1
 obtain ⟨i,hi,he⟩:=List.getElem_of_mem h2
 obtain ⟨j,hj,hf⟩:=List.getElem_of_mem hx
 have:=h.pd i j hi hj (by rw [AY hi,AY hj,he,hf,h3])
 subst this
 rw [← he,hf]
def Jf (p:GPermitPlan) (a b:Str):Int:=if a=b then 0 else bif Q7 (Ve p a).Next b||Q7 (Ve p b).Next a then 1 else 2
theorem O9 (p:GPermitPlan) (a b:Str):Jf p a b=Jf p b a:=by
 unfold Jf
 by_cases h:a=b
 ·subst h;rfl
 ·rw [if_neg h,if_neg (fun x=>h x.symm),Bool.or_comm]
def exE (e:bG) (d k m:Int):Bool:=decide (d≤e.Reach)&&((decide (e.A=k)&&decide (e.B=m))||(decide (e.A=m)&&decide (e.B=k)))
theorem Uc (e:bG) (d k m:Int):exE e d k m=exE e d m k:=by unfold exE;rw [Bool.or_comm]
def Aw (p:GPermitPlan) (x y:aC):Bool:=bif decide (x.Name=y.Name) then false else p.cZ.any (fun e=>exE e (Jf p x.Space y.Space) x.Kind y.Kind)
theorem O5 (p:GPermitPlan) (x y:aC):Aw p x y=Aw p y x:=by
 unfold Aw
 rw [O9 p y.Space x.Space,show decide (y.Name=x.Name)=decide (x.Name=y.Name) from decide_eq_decide.2 ⟨Eq.symm,Eq.symm⟩]
 congr 2
 funext e
 exact Uc ..
theorem O6 (p:GPermitPlan) (x:aC):Aw p x x=false:=by unfold Aw;simp
end Go.KB
namespace Go.KB
set_option linter.unusedVariables false
theorem JB {α:Type} {xs ys:List α} (h:xs.length+ys.length≤lim):app xs ys=some (xs ++ ys):=by
 unfold app;rw [Nat.ble_eq_true_of_le h];rfl
theorem Q9 {S O:Type} {n N:Nat} {f:S→Option (S ⊕ O)} (g:Nat→S) (r:O) (h:∀ i:Nat,i<n→f (g i)=some (.inl (g (i+1)))) (he:f (g n)=some (.inr r)) (hN:n<N):dA f N (g 0)=some r:=by
 have key:∀ k i,i+k=n→∀ M,k<M→dA f M (g i)=some r:=by
  intro k
  induction k with
  | zero =>
   intro i hi M hM
   obtain ⟨M,rfl⟩:∃ m,M=m+1:=⟨M - 1,by omega⟩
   have:i=n:=by omega
   subst this
   simp only [dA,he]
  | succ k ih =>
   intro i hi M hM
   obtain ⟨M,rfl⟩:∃ m,M=m+1:=⟨M - 1,by omega⟩
   simp only [dA,h i (by omega)]
   exact ih (i+1) (by omega) M (by omega)
 exact key n 0 (by omega) N (by omega)
theorem CJ {S O α T:Type} {N:Nat} {f:S→Option (S ⊕ O)} (l:List α) (t0:T) (stp:T→α→T) (mk:T→Int→S) (out:T→O) (hf:∀ (i:Nat) (hi:i<l.length) (t:T),t=(l.take i).foldl stp t0→f (mk t (i:Int))=some (.inl (mk (stp t l[i]) ((i+1:Nat):Int)))) (he:∀ t,f (mk t (l.length:Int))=some (.inr (out t))) (hN:l.length<N):dA f N (mk t0 0)=some (out (l.foldl stp t0)):=by
 refine Q9 (n:=l.length) (fun i=>mk ((l.take i).foldl stp t0) (i:Int)) _ (fun i hi=>?_) ?_ hN
 ·rw [hf i hi _ rfl,List.take_succ_eq_append_getElem hi,List.foldl_append];rfl
 ·rw [List.take_length];exact he _
theorem foldl_filter {α β : Type} (g : α → Bool) (h : α → β) : ∀ (l : List α) (a : List β), l.foldl (fun acc x => bif g x then acc ++ [h x] else acc) a = a ++ (l.filter g).map h
  | [],a=>by simp
  | x :: r,a=>by
    simp only [List.foldl_cons,foldl_filter g h r,List.filter_cons]
    cases g x <;> simp
theorem Rf {α β:Type} (g:α→Bool) (h:α→β):∀ (l:List α) (a:List β),(l.foldl (fun acc x=>bif g x then acc ++ [h x] else acc) a).length≤a.length+l.length:=fun l a=>by
 rw [foldl_filter,List.length_append,List.length_map]
 have:=List.length_filter_le g l
 omega
theorem Hu {S O α β:Type} {N:Nat} {f:S→Option (S ⊕ O)} (l:List α) (a:List β) (g:α→Bool) (h:α→β) (mk:List β→Int→S) (out:List β→O) (hf:∀ (i:Nat) (hi:i<l.length) (acc:List β),acc.length≤a.length+l.length→f (mk acc (i:Int))=some (.inl (mk (bif g l[i] then acc ++ [h l[i]] else acc) ((i+1:Nat):Int)))) (he:∀ t,f (mk t (l.length:Int))=some (.inr (out t))) (hN:l.length<N):dA f N (mk a 0)=some (out (a ++ (l.filter g).map h)):=by
 rw [CJ (f:=f) l a (fun acc x=>bif g x then acc ++ [h x] else acc) mk out (fun i hi t ht=>?_) he hN,foldl_filter]
 refine hf i hi t ?_
 rw [ht]
 have:=Rf g h (l.take i) a
 rw [List.length_take] at this
 omega
theorem Ua {α:Type} {l:List α} {a b:Nat} (h:a≤b) (hb:b≤l.length):P6 l (a:Int) (b:Int)=some ((l.take b).drop a):=by
 unfold P6
 rw [dT (by omega),dT (by omega),dT (by omega)];rfl
end Go.KB
namespace Go.KB
set_option linter.unusedVariables false
theorem Je {N:Nat} {l:List Str} {s:Str} (hl:l.length<1000000) (hN:1000000≤N):dY N l s=some (Q7 l s):=by
 unfold dY mG
 have h:((dA (ja N l s) N 0).bind fun o5=>Sum.elim (fun l7=>some (-1:Int)) (fun r8=>some r8) o5)=some (Jl (fun x=>decide (s=x)) l):=by
  refine vK (fun i hi=>?_) ?_ (by omega)
  ·unfold ja
   rw [bZ,dT (by omega),vC,jw hi,bS,vw,qR (by omega)]
  ·unfold ja
   rw [bZ,dF (by omega),sF]
 rw [h,bS,Au]
 have:=CP (g:=fun x=>decide (s=x)) (l:=l)
 unfold Q7
 cases h2:l.any (fun x=>decide (s=x)) with
 | true=>rw [h2] at this;simp at this;rw [dT (by omega)]
 | false=>rw [h2] at this;simp at this;rw [dF (by omega)]
theorem TU {N:Nat} {l:List Int} {s:Int} (hl:l.length<1000000) (hN:1000000≤N):jR N l s=some (l.contains s):=by
 unfold jR pY
 have h:((dA (jP N l s) N 0).bind fun o5=>Sum.elim (fun l7=>some (-1:Int)) (fun r8=>some r8) o5)=some (Jl (fun x=>decide (s=x)) l):=by
  refine vK (fun i hi=>?_) ?_ (by omega)
  ·unfold jP
   rw [bZ,dT (by omega),vC,jw hi,bS,Ar,qR (by omega)]
  ·unfold jP
   rw [bZ,dF (by omega),sF]
 rw [h,bS,Au]
 have:=CP (g:=fun x=>decide (s=x)) (l:=l)
 have e:l.contains s=l.any (fun x=>decide (s=x)):=by
  rw [Bool.eq_iff_iff,List.contains_iff_mem,List.any_eq_true];simp
 rw [e]
 cases h2:l.any (fun x=>decide (s=x)) with
 | true=>rw [h2] at this;simp at this;rw [dT (by omega)]
 | false=>rw [h2] at this;simp at this;rw [dF (by omega)]
theorem LV.next {p:GPermitPlan} (hp:LV p) (s:Str):(Ve p s).Next.length<1000:=by
 unfold Ve zU
 cases h:p.bU.find? (isS s) with
 | none=>simp
 | some y=>exact hp.n y (List.mem_of_find?_eq_some h)
theorem Vd {N:Nat} {p:GPermitPlan} {a b:Str} (hp:LV p) (hN:1000000≤N):nJ N p a b=some (Jf p a b):=by
  unfold nJ Jf
  have hs:=hp.s
  have h1:=hp.next a
  have h2:=hp.next b
  rw [EH (by omega) hN,EH (by omega) hN,bS,bS,vw]
  by_cases h:a=b
  · rw [dT h,if_pos h];rfl
  · rw [dF h, if_neg h, sF, show dY N (zU _ (isS a) p.bU).1.Next b = _ from Je (by exact Nat.lt_trans h1 (by decide)) hN, show dY N (zU _ (isS b) p.bU).1.Next a = _ from Je (by exact Nat.lt_trans h2 (by decide)) hN, bS]
    show ((bif (!Q7 (Ve p a).Next b) then some (Q7 (Ve p b).Next a) else some false).bind fun v4=>bif (Q7 (Ve p a).Next b||v4) then (some (1:Int)) else (some 2))=_
    cases Q7 (Ve p a).Next b with
    | true=>rfl
    | false=>cases Q7 (Ve p b).Next a <;> rfl
end Go.KB
namespace Go.KB
set_option linter.unusedVariables false
structure AO where
 now:Int
 es:Str→ah
 ts:Str→Option ak
 pp:List (Str×Str)
 done:List bP
def stA (A:AO) (s:Str):Int:=(A.es s).state
end Go.KB
