/- Plain laws of chapter 7: what a valid plan is, nearness, exclusion, needs. Plain laws of chapter 7: loops that filter, find and delete. Plain laws of chapter 7: near and needs of the program. Plain laws of chapter 7: what an office does, by names. No condition. -/
import Derived.Test.YtekbfkfjhgfieaaGreatPZl
namespace Go.KB
set_option linter.unusedVariables false
def DR (l:List Str) (s:Str):Bool:=l.any (fun x=>decide (s=x))
theorem jJk {l:List Str} {s:Str}:DR l s=true↔s ∈ l:=by
 unfold DR;rw [List.any_eq_true]
 constructor
 ·rintro ⟨x,h1,h2⟩;rw [decide_eq_true_eq] at h2;rw [h2];exact h1
 ·intro h;exact ⟨s,h,by simp⟩
theorem SV {p:GPermitPlan} {s:Str}:vW p s=true↔∃ y ∈ p.bG,y.Name=s:=by
 unfold vW;rw [List.any_eq_true];simp [isS]
theorem yT {p:GPermitPlan} {s:Str}:lY p s=true↔∃ y ∈ p.aj,y.Name=s:=by
 unfold lY;rw [List.any_eq_true];simp [OI]
theorem Oz {α:Type} {z:α} {g:α→Bool} {l:List α} (h:l.any g=true):(zU z g l).1 ∈ l∧g (zU z g l).1=true:=by
 unfold zU
 cases h2:l.find? g with
 | none=>rw [List.any_eq_true] at h;obtain ⟨x,hx,hg⟩:=h;exact absurd hg (by simpa using List.find?_eq_none.1 h2 x hx)
 | some y=>exact ⟨List.mem_of_find?_eq_some h2,List.find?_some h2⟩
theorem JL {p:GPermitPlan} {s:Str} (h:vW p s=true):yx p s ∈ p.bG∧(yx p s).Name=s:=by
 have:=Oz (z:=(⟨[],false,[]⟩:dn)) h
 exact ⟨this.1,of_decide_eq_true this.2⟩
theorem zC {p:GPermitPlan} {s:Str} (h:lY p s=true):rF p s ∈ p.aj∧(rF p s).Name=s:=by
 have:=Oz (z:=(⟨[],0,[],0,0,[]⟩:aG)) h
 exact ⟨this.1,of_decide_eq_true this.2⟩
structure DN (p:GPermitPlan):Prop where
 ns:p.bG.length≤30
 ne:p.dR.length≤30
 np:p.aj.length≤20
 gm:1≤p.fC∧p.fC≤10000
 sn:∀ y ∈ p.bG,lm y.Name=true
 sd:∀ i j,i<p.bG.length→j<p.bG.length→p.bG[i]!.Name=p.bG[j]!.Name→i=j
 nx:∀ y ∈ p.bG,∀ n ∈ y.Next,vW p n=true∧n≠y.Name
 xk:∀ e ∈ p.dR,Bf e.A=true∧Bf e.B=true∧0≤e.Reach∧e.Reach≤2
 pn:∀ y ∈ p.aj,lm y.Name=true
 pd:∀ i j,i<p.aj.length→j<p.aj.length→p.aj[i]!.Name=p.aj[j]!.Name→i=j
 pk:∀ y ∈ p.aj,Bf y.Kind=true∧0≤y.From∧y.From<y.To∧y.To≤1000000∧vW p y.Space=true
 lk:∀ y ∈ p.aj,∀ l ∈ y.Locks,lY p l=true∧(rF p l).Kind=5∧y.Kind≠5
theorem VK {a b:Int} (h:Ho a b=0):a=0∧b=0:=by
 unfold Ho at h
 by_cases h0:a=0
 ·rw [if_pos h0] at h;exact ⟨h0,h⟩
 ·rw [if_neg h0] at h;exact absurd h h0
theorem Ee {α:Type} [Inhabited α] {l:List α} {e:Nat→Int} {y:α} (h:iJ e l.length 0=0) (hy:y ∈ l):∃ i,i<l.length∧l[i]! = y∧e i=0:=by
 obtain ⟨i,hi,rfl⟩:=List.getElem_of_mem hy
 exact ⟨i,hi,BH hi,Ey h i (by omega) (by omega)⟩
theorem VL {nm:Nat→Str} {n:Nat} (h:∀ i,i<n→dup nm i (nm i)=false):∀ i j,i<n→j<n→nm i=nm j→i=j:=by
 have key:∀ i j,i<j→j<n→nm i≠nm j:=fun i j hij hj he=>by
  have:=(QM nm (nm j) j).2 ⟨i,hij,he⟩
  rw [h j hj] at this;cases this
 intro i j hi hj he
 rcases Nat.lt_trichotomy i j with h1 | h1 | h1
 ·exact absurd he (key i j h1 hj)
 ·exact h1
 ·exact absurd he.symm (key j i h1 hi)
theorem eSp0 {p:GPermitPlan} {i:Nat} (h:YT p i=0):lm (JU p i)=true∧dup (JU p) i (JU p i)=false:=by
 unfold YT at h
 split at h
 ·cases h
 ·rename_i h1
  split at h
  ·cases h
  ·rename_i h2;exact ⟨by simpa using h1,by simpa using h2⟩
theorem ePm0 {p:GPermitPlan} {i:Nat} (h:ePm p i=0):lm (MQ p i)=true∧dup (MQ p) i (MQ p i)=false∧Bf p.aj[i]!.Kind=true∧0≤p.aj[i]!.From∧p.aj[i]!.From<p.aj[i]!.To∧p.aj[i]!.To≤1000000∧vW p p.aj[i]!.Space=true:=by
 unfold ePm at h
 split at h
 ·cases h
 ·rename_i h1
  split at h
  ·cases h
  ·rename_i h2
   split at h
   ·cases h
   ·rename_i h3
    split at h
    ·cases h
    ·rename_i h4
     simp only [not_or] at h3
     refine ⟨by simpa using h1,by simpa using h2,by simpa using h3.1,by omega,by omega,by omega,by simpa using h4⟩
theorem okP {p:GPermitPlan} (h:wW p=0):DN p:=by
 unfold wW at h
 split at h
 ·cases h
 rename_i hb
 split at h
 ·cases h
 rename_i hg
 obtain ⟨h1,h2⟩:=VK h
 obtain ⟨h1,h3⟩:=VK h1
 obtain ⟨h4,h5⟩:=VK h2
 obtain ⟨h5,h6⟩:=VK h5
 refine ⟨by omega,by omega,by omega,by omega,?_,?_,?_,?_,?_,?_,?_,?_⟩
 ·intro y hy;obtain ⟨i,hi,rfl,he⟩:=Ee h1 hy;exact (eSp0 he).1
 ·exact VL (nm:=JU p) fun i hi=>(eSp0 (Ey h1 i (by omega) (by omega))).2
 ·intro y hy n hn
  obtain ⟨i,hi,rfl,he⟩:=Ee h3 hy
  obtain ⟨j,hj,rfl,he⟩:=Ee he hn
  unfold eNx at he
  split at he
  ·cases he
  ·rename_i a
   split at he
   ·cases he
   ·rename_i b;exact ⟨by simpa using a,b⟩
 ·intro y hy
  obtain ⟨i,hi,rfl,he⟩:=Ee h4 hy
  unfold eEx at he
  split at he
  ·cases he
  ·rename_i a;simp only [not_or] at a;exact ⟨by simpa using a.1,by simpa using a.2.1,by omega,by omega⟩
 ·intro y hy;obtain ⟨i,hi,rfl,he⟩:=Ee h5 hy;exact (ePm0 he).1
 ·exact VL (nm:=MQ p) fun i hi=>(ePm0 (Ey h5 i (by omega) (by omega))).2.1
 ·intro y hy;obtain ⟨i,hi,rfl,he⟩:=Ee h5 hy;exact (ePm0 he).2.2
 ·intro y hy n hn
  obtain ⟨i,hi,rfl,he⟩:=Ee h6 hy
  obtain ⟨j,hj,rfl,he⟩:=Ee he hn
  unfold eLk at he
  split at he
  ·cases he
  ·rename_i a
   split at he
   ·cases he
   ·rename_i b;simp only [not_or] at b;exact ⟨by simpa using a,by simpa using b.1,b.2⟩
theorem DN.sm {p:GPermitPlan} {N:Nat} (hp:EZ p):EZ p:=hp
theorem DN.Et {p:GPermitPlan} (h:DN p) {x:aG} (hx:x ∈ p.aj):rF p x.Name=x:=by
 have h1:lY p x.Name=true:=yT.2 ⟨x,hx,rfl⟩
 obtain ⟨h2,h3⟩:=zC h1
 obtain ⟨i,hi,he⟩:=List.getElem_of_mem h2
 obtain ⟨j,hj,hf⟩:=List.getElem_of_mem hx
 have:=h.pd i j hi hj (by rw [BH hi,BH hj,he,hf,h3])
 subst this
 rw [← he,hf]
theorem DN.Yz {p:GPermitPlan} (h:DN p) {x:dn} (hx:x ∈ p.bG):yx p x.Name=x:=by
 have h1:vW p x.Name=true:=SV.2 ⟨x,hx,rfl⟩
 obtain ⟨h2,h3⟩:=JL h1
 obtain ⟨i,hi,he⟩:=List.getElem_of_mem h2
 obtain ⟨j,hj,hf⟩:=List.getElem_of_mem hx
 have:=h.sd i j hi hj (by rw [BH hi,BH hj,he,hf,h3])
 subst this
 rw [← he,hf]
theorem VN {α:Type} [Inhabited α] {g:α→Bool} {l:List α} (z:α) (h:l.any g=true):∃ i,i<l.length∧Gg g l=(i:Int)∧l[i]! = (zU z g l).1∧g l[i]! = true:=by
 rcases MR (g:=g) (l:=l) with ⟨_,h1,h2⟩ | ⟨h1,h2⟩
 ·refine ⟨l.findIdx g,h1,Bh h1,?_,?_⟩
  ·unfold zU;rw [h2,BH h1]
  ·rw [BH h1];exact List.findIdx_getElem
 ·rw [List.any_eq_true] at h;obtain ⟨x,hx,hg⟩:=h
  exact absurd hg (by simpa using List.find?_eq_none.1 h2 x hx)
theorem ixS {p:GPermitPlan} {s:Str} (h:vW p s=true):∃ i,i<p.bG.length∧Gg (isS s) p.bG=(i:Int)∧p.bG[i]! = yx p s:=by
 obtain ⟨i,h1,h2,h3,_⟩:=VN (⟨[],false,[]⟩:dn) h
 exact ⟨i,h1,h2,h3⟩
theorem ixP {p:GPermitPlan} {s:Str} (h:lY p s=true):∃ i,i<p.aj.length∧Gg (OI s) p.aj=(i:Int)∧p.aj[i]! = rF p s:=by
 obtain ⟨i,h1,h2,h3,_⟩:=VN (⟨[],0,[],0,0,[]⟩:aG) h
 exact ⟨i,h1,h2,h3⟩
def kJ (p:GPermitPlan) (a b:Str):Int:=if a=b then 0 else bif DR (yx p a).Next b||DR (yx p b).Next a then 1 else 2
theorem Ob (p:GPermitPlan) (a b:Str):kJ p a b=kJ p b a:=by
 unfold kJ
 by_cases h:a=b
 ·subst h;rfl
 ·rw [if_neg h,if_neg (fun x=>h x.symm),Bool.or_comm]
def exE (e:bT) (d k m:Int):Bool:=decide (d≤e.Reach)&&((decide (e.A=k)&&decide (e.B=m))||(decide (e.A=m)&&decide (e.B=k)))
theorem YU (e:bT) (d k m:Int):exE e d k m=exE e d m k:=by unfold exE;rw [Bool.or_comm]
def wX (p:GPermitPlan) (x y:aG):Bool:=bif decide (x.Name=y.Name) then false else p.dR.any (fun e=>exE e (kJ p x.Space y.Space) x.Kind y.Kind)
theorem Jk (p:GPermitPlan) (x y:aG):wX p x y=wX p y x:=by
 unfold wX
 rw [Ob p y.Space x.Space,show decide (y.Name=x.Name)=decide (x.Name=y.Name) from decide_eq_decide.2 ⟨Eq.symm,Eq.symm⟩]
 congr 2
 funext e
 exact YU ..
def zQ (x:aG):Bool:=decide (x.Kind=0)||(decide (x.Kind=1)||decide (x.Kind=2))
def G7 (p:GPermitPlan) (x:aG):List Str:=(bif zQ x&&(yx p x.Space).dm then [(yx p x.Space).Name] else []) ++ (bif decide (x.Kind=0) then (p.bG.filter (fun s=>s.dm&&decide (kJ p s.Name (yx p x.Space).Name=1))).map (fun s=>s.Name) else [])
end Go.KB
namespace Go.KB
set_option linter.unusedVariables false
theorem zW {α:Type} {xs ys:List α} (h:xs.length+ys.length≤lim):app xs ys=some (xs ++ ys):=by
 unfold app;rw [Nat.ble_eq_true_of_le h];rfl
theorem Be {S O:Type} {n N:Nat} {f:S→Option (S ⊕ O)} (g:Nat→S) (r:O) (h:∀ i:Nat,i<n→f (g i)=some (.inl (g (i+1)))) (he:f (g n)=some (.inr r)) (hN:n<N):dU f N (g 0)=some r:=by
 have key:∀ k i,i+k=n→∀ M,k<M→dU f M (g i)=some r:=by
  intro k
  induction k with
  | zero =>
   intro i hi M hM
   obtain ⟨M,rfl⟩:∃ m,M=m+1:=⟨M - 1,by omega⟩
   have:i=n:=by omega
   subst this
   simp only [dU,he]
  | succ k ih =>
   intro i hi M hM
   obtain ⟨M,rfl⟩:∃ m,M=m+1:=⟨M - 1,by omega⟩
   simp only [dU,h i (by omega)]
   exact ih (i+1) (by omega) M (by omega)
 exact key n 0 (by omega) N (by omega)
theorem UW {S O α T:Type} {N:Nat} {f:S→Option (S ⊕ O)} (l:List α) (t0:T) (stp:T→α→T) (mk:T→Int→S) (out:T→O) (hf:∀ (i:Nat) (hi:i<l.length) (t:T),t=(l.take i).foldl stp t0→f (mk t (i:Int))=some (.inl (mk (stp t l[i]) ((i+1:Nat):Int)))) (he:∀ t,f (mk t (l.length:Int))=some (.inr (out t))) (hN:l.length<N):dU f N (mk t0 0)=some (out (l.foldl stp t0)):=by
 refine Be (n:=l.length) (fun i=>mk ((l.take i).foldl stp t0) (i:Int)) _ (fun i hi=>?_) ?_ hN
 ·rw [hf i hi _ rfl,List.take_succ_eq_append_getElem hi,List.foldl_append];rfl
 ·rw [List.take_length];exact he _
theorem foldl_filter {α β : Type} (g : α → Bool) (h : α → β) : ∀ (l : List α) (a : List β), l.foldl (fun acc x => bif g x then acc ++ [h x] else acc) a = a ++ (l.filter g).map h
  | [],a=>by simp
  | x :: r,a=>by
    simp only [List.foldl_cons,foldl_filter g h r,List.filter_cons]
    cases g x <;> simp
theorem WO {α β:Type} (g:α→Bool) (h:α→β):∀ (l:List α) (a:List β),(l.foldl (fun acc x=>bif g x then acc ++ [h x] else acc) a).length≤a.length+l.length:=fun l a=>by
 rw [foldl_filter,List.length_append,List.length_map]
 have:=List.length_filter_le g l
 omega
theorem CW {S O α β:Type} {N:Nat} {f:S→Option (S ⊕ O)} (l:List α) (a:List β) (g:α→Bool) (h:α→β) (mk:List β→Int→S) (out:List β→O) (hf:∀ (i:Nat) (hi:i<l.length) (acc:List β),acc.length≤a.length+l.length→f (mk acc (i:Int))=some (.inl (mk (bif g l[i] then acc ++ [h l[i]] else acc) ((i+1:Nat):Int)))) (he:∀ t,f (mk t (l.length:Int))=some (.inr (out t))) (hN:l.length<N):dU f N (mk a 0)=some (out (a ++ (l.filter g).map h)):=by
 rw [UW (f:=f) l a (fun acc x=>bif g x then acc ++ [h x] else acc) mk out (fun i hi t ht=>?_) he hN,foldl_filter]
 refine hf i hi t ?_
 rw [ht]
 have:=WO g h (l.take i) a
 rw [List.length_take] at this
 omega
theorem KX {α:Type} {l:List α} {a b:Nat} (h:a≤b) (hb:b≤l.length):L9 l (a:Int) (b:Int)=some ((l.take b).drop a):=by
 unfold L9
 rw [dT (by omega),dT (by omega),dT (by omega)];rfl
theorem YV {N:Nat} {f:(List Str×Int×Int)→Option ((List Str×Int×Int) ⊕ (List Str×Int))} {l:List Str} {g:Str→Bool} (hf:∀ (xs:List Str) (i j:Nat),(hj:j<xs.length)→i≤j→j<1000000→xs[j] ∈ l→f (xs,(i:Int),(j:Int))=bif !g xs[j] then some (.inl (xs.set i xs[j],((i+1:Nat):Int),((j+1:Nat):Int))) else some (.inl (xs,(i:Int),((j+1:Nat):Int)))) (he:∀ (xs:List Str) (i:Int),f (xs,i,(xs.length:Int))=some (.inr (xs,i))) (hl:l.length<1000000) (hN:1000000≤N) {i0:Nat} (h0:i0<l.length) (hi:l.findIdx g=i0) :
    ∃ xs,dU f N (l,(i0:Int),((i0+1:Nat):Int))=some (xs,((l.filter fun s=>!g s).length:Int))∧xs.length=l.length∧xs.take (l.filter fun s=>!g s).length=l.filter fun s=>!g s:=by
  have key:∀ k i j xs,j+k=l.length→i≤j→xs.length=l.length→xs.take i=(l.take j).filter (fun s=>!g s)→xs.drop j=l.drop j→i=((l.take j).filter (fun s=>!g s)).length→∀ M,k<M →
      ∃ ys,dU f M (xs,(i:Int),(j:Int))=some (ys,((l.filter fun s=>!g s).length:Int))∧ys.length=l.length∧ys.take (l.filter fun s=>!g s).length=l.filter fun s=>!g s:=by
    intro k
    induction k with
    | zero =>
      intro i j xs hj hij hx h1 h2 h3 M hM
      obtain ⟨M,rfl⟩:∃ m,M=m+1:=⟨M - 1,by omega⟩
      have:j=xs.length:=by omega
      subst this
      rw [hx,List.take_length] at h1 h3
      refine ⟨xs,?_,hx,by rw [← h3];exact h1⟩
      simp only [dU,he,h3]
    | succ k ih =>
      intro i j xs hj hij hx h1 h2 h3 M hM
      obtain ⟨M,rfl⟩:∃ m,M=m+1:=⟨M - 1,by omega⟩
      have hjx:j<xs.length:=by omega
      have hjl:j<l.length:=by omega
      have hxj:xs[j]=l[j]:=by
        have:=congrArg (fun l=>l[0]?) h2
        simp only [List.getElem?_drop,Nat.add_zero] at this
        rw [List.getElem?_eq_getElem hjx,List.getElem?_eq_getElem hjl] at this
        exact Option.some.inj this
      have hd:xs.drop (j+1)=l.drop (j+1):=by rw [← List.drop_drop,← List.drop_drop,h2]
      simp only [dU,hf xs i j hjx hij (by omega) (by rw [hxj];exact List.getElem_mem hjl)]
      rw [hxj]
      have htk:(l.take (j+1)).filter (fun s=>!g s)=(l.take j).filter (fun s=>!g s) ++ [l[j]].filter (fun s=>!g s):=by
        rw [List.take_succ_eq_append_getElem hjl,List.filter_append]
      cases hg:g l[j] with
      | false =>
        have hone:[l[j]].filter (fun s=>!g s)=[l[j]]:=by simp [hg]
        rw [hone] at htk
        simp only [Bool.not_false,cond_true]
        refine ih (i+1) (j+1) (xs.set i l[j]) (by omega) (by omega) (by simpa using hx) ?_ ?_ ?_ M (by omega)
        · rw [htk, ← h1, List.take_succ_eq_append_getElem (by simp; omega), List.take_set_of_le (Nat.le_refl _)]
          simp
        · rw [List.drop_set_of_lt (by omega)];exact hd
        · rw [htk,List.length_append,← h3];rfl
      | true =>
        have hone:[l[j]].filter (fun s=>!g s)=[]:=by simp [hg]
        rw [hone,List.append_nil] at htk
        simp only [Bool.not_true,cond_false]
        exact ih i (j+1) xs (by omega) (by omega) hx (by rw [htk];exact h1) hd (by rw [htk];exact h3) M (by omega)
  have hpre:(l.take i0).filter (fun s=>!g s)=l.take i0:=by
    refine List.filter_eq_self.2 fun a ha=>?_
    obtain ⟨j,hj,rfl⟩:=List.getElem_of_mem ha
    rw [List.length_take] at hj
    have:=List.not_of_lt_findIdx (p:=g) (xs:=l) (i:=j) (by omega)
    rw [List.getElem_take]
    simpa using this
  have hat:g l[i0]=true:=by subst hi;exact List.findIdx_getElem
  refine key (l.length - (i0+1)) i0 (i0+1) l (by omega) (by omega) rfl ?_ rfl ?_ N (by omega)
  · rw [List.take_succ_eq_append_getElem h0,List.filter_append,hpre];simp [hat]
  · rw [List.take_succ_eq_append_getElem h0,List.filter_append,hpre];simp [hat];omega
theorem del_eq {N:Nat} {f:(List Str×Int×Int)→Option ((List Str×Int×Int) ⊕ (List Str×Int))} {l:List Str} {g:Str→Bool} (hf:∀ (xs:List Str) (i j:Nat),(hj:j<xs.length)→i≤j→j<1000000→xs[j] ∈ l→f (xs,(i:Int),(j:Int))=bif !g xs[j] then some (.inl (xs.set i xs[j],((i+1:Nat):Int),((j+1:Nat):Int))) else some (.inl (xs,(i:Int),((j+1:Nat):Int)))) (he:∀ (xs:List Str) (i:Int),f (xs,i,(xs.length:Int))=some (.inr (xs,i))) (hl:l.length<1000000) (hN:1000000≤N) :
    (bif (aF .eql (Gg g l) (-1)) then (some l) else ((dU f N (l,Gg g l,(IntKind.i64.wrap (Gg g l+1)))).bind fun o8=>(L9 o8.1 o8.2 (List.length o8.1:Int)).bind fun v10=>(bif Nat.beq ((Int.toNat o8.2)+(Int.toNat (List.length o8.1:Int) - Int.toNat o8.2)) (List.length o8.1) then some (List.take (Int.toNat o8.2) o8.1 ++ List.replicate (Int.toNat (List.length o8.1:Int) - Int.toNat o8.2) []) else none).bind fun v11=>(L9 v11 0 o8.2).bind fun v12=>some v12))=some (l.filter fun s=>!g s):=by
  rw [jr]
  by_cases h:l.findIdx g<l.length
  · rw [Bh h, dF (by omega), cond_false, qw (by omega)]
    obtain ⟨xs,h1,h2,h3⟩:=YV hf he hl hN h rfl
    rw [h1,bS]
    simp only []
    have hk:(l.filter fun s=>!g s).length≤xs.length:=by rw [h2];exact List.length_filter_le _ _
    generalize hkk:(l.filter fun s=>!g s).length=k at h3 hk
    rw [KX hk (Nat.le_refl _),bS,Int.toNat_natCast,Int.toNat_natCast,show Nat.beq (k+(xs.length - k)) xs.length=true from by rw [Nat.beq_eq];omega,cond_true,bS]
    have e0:L9 (List.take k xs ++ List.replicate (xs.length - k) []) 0 (k:Int)=some (((List.take k xs ++ List.replicate (xs.length - k) []).take k).drop 0):=KX (a:=0) (Nat.zero_le _) (by simp;omega)
    rw [e0,bS,List.drop_zero,List.take_append_of_le_length (by simp;omega),List.take_take,Nat.min_self,h3]
  · rw [FW h,dT rfl,cond_true]
    congr 1
    refine (List.filter_eq_self.2 fun a ha=>?_).symm
    cases hg:g a with
    | false=>rfl
    | true=>exact absurd (List.findIdx_lt_length.2 ⟨a,ha,hg⟩) h
end Go.KB
namespace Go.KB
set_option linter.unusedVariables false
theorem OA {N:Nat} {l:List Str} {s:Str} (hl:l.length<1000000) (hN:1000000≤N):iD N l s=some (DR l s):=by
 unfold iD qj
 have h:((dU (kX N l s) N 0).bind fun o5=>Sum.elim (fun l7=>some (-1:Int)) (fun r8=>some r8) o5)=some (Gg (fun x=>decide (s=x)) l):=by
  refine yA (fun i hi=>?_) ?_ (by omega)
  ·unfold kX
   rw [bQ,dT (by omega),cond_true,ji hi,bS,qM,qw (by omega)]
  ·unfold kX
   rw [bQ,dF (by omega),cond_false]
 rw [h,bS,Am]
 have:=Eu (g:=fun x=>decide (s=x)) (l:=l)
 unfold DR
 cases h2:l.any (fun x=>decide (s=x)) with
 | true=>rw [h2] at this;simp at this;rw [dT (by omega)]
 | false=>rw [h2] at this;simp at this;rw [dF (by omega)]
theorem Oy {N:Nat} {l:List Int} {s:Int} (hl:l.length<1000000) (hN:1000000≤N):pO N l s=some (l.contains s):=by
 unfold pO ul
 have h:((dU (nO N l s) N 0).bind fun o5=>Sum.elim (fun l7=>some (-1:Int)) (fun r8=>some r8) o5)=some (Gg (fun x=>decide (s=x)) l):=by
  refine yA (fun i hi=>?_) ?_ (by omega)
  ·unfold nO
   rw [bQ,dT (by omega),cond_true,ji hi,bS,jr,qw (by omega)]
  ·unfold nO
   rw [bQ,dF (by omega),cond_false]
 rw [h,bS,Am]
 have:=Eu (g:=fun x=>decide (s=x)) (l:=l)
 have e:l.contains s=l.any (fun x=>decide (s=x)):=by
  rw [Bool.eq_iff_iff,List.contains_iff_mem,List.any_eq_true];simp
 rw [e]
 cases h2:l.any (fun x=>decide (s=x)) with
 | true=>rw [h2] at this;simp at this;rw [dT (by omega)]
 | false=>rw [h2] at this;simp at this;rw [dF (by omega)]
theorem EZ.next {p:GPermitPlan} (hp:EZ p) (s:Str):(yx p s).Next.length<1000:=by
 unfold yx zU
 cases h:p.bG.find? (isS s) with
 | none=>simp
 | some y=>exact hp.n y (List.mem_of_find?_eq_some h)
theorem JQ {N:Nat} {p:GPermitPlan} {a b:Str} (hp:EZ p) (hN:1000000≤N):qV N p a b=some (kJ p a b):=by
  unfold qV kJ
  have hs:=hp.s
  have h1:=hp.next a
  have h2:=hp.next b
  rw [zK (by omega) hN,zK (by omega) hN,bS,bS,qM]
  by_cases h:a=b
  · rw [dT h,if_pos h];rfl
  · rw [dF h, if_neg h, cond_false, show iD N (zU _ (isS a) p.bG).1.Next b = _ from OA (by exact Nat.lt_trans h1 (by decide)) hN, show iD N (zU _ (isS b) p.bG).1.Next a = _ from OA (by exact Nat.lt_trans h2 (by decide)) hN, bS]
    show ((bif (!DR (yx p a).Next b) then some (DR (yx p b).Next a) else some false).bind fun v4=>bif (DR (yx p a).Next b||v4) then (some (1:Int)) else (some 2))=_
    cases DR (yx p a).Next b with
    | true=>rfl
    | false=>cases DR (yx p b).Next a <;> rfl
theorem YP {N:Nat} {p:GPermitPlan} {x:aG} (hp:EZ p) (hN:1000000≤N):yO N p x=some (G7 p x):=by
 unfold yO G7
 have hs:=hp.s
 have hlim:lim ≥ 1000000:=by decide
 rw [zK (by omega) hN,bS]
 have hk:(bif (aF .eql x.Kind 0) then (some (aF .eql x.Kind 0)) else (bif (aF .eql x.Kind 1) then (some (aF .eql x.Kind 1)) else (some (aF .eql x.Kind 2))))=some (zQ x):=by
  unfold zQ
  simp only [jr]
  cases decide (x.Kind=0) <;> cases decide (x.Kind=1) <;> cases decide (x.Kind=2) <;> rfl
 rw [hk,bS]
 have ho:(bif zQ x then (bif (zU (⟨[],false,[]⟩:dn) (isS x.Space) p.bG).1.dm then ((app [] [(zU (⟨[],false,[]⟩:dn) (isS x.Space) p.bG).1.Name]).bind fun v6=>some v6) else (some [])) else (some []))=some (bif zQ x&&(yx p x.Space).dm then [(yx p x.Space).Name] else []):=by
  show (bif zQ x then (bif (yx p x.Space).dm then ((app [] [(yx p x.Space).Name]).bind fun v6=>some v6) else (some [])) else (some []))=_
  rw [zW (by simp only [List.length_nil,List.length_singleton];omega)]
  cases zQ x <;> cases (yx p x.Space).dm <;> rfl
 rw [ho,bS,jr]
 by_cases h0:x.Kind=0
 ·rw [dT h0,cond_true,cond_true]
  rw [CW (f:=sU N p (zU (⟨[],false,[]⟩:dn) (isS x.Space) p.bG)) p.bG _ (fun s=>s.dm&&decide (kJ p s.Name (yx p x.Space).Name=1)) (fun s=>s.Name) (fun a i=>(a,i)) (fun a=>a) (fun i hi acc hacc=>?_) (fun acc=>?_) (by omega)]
  ·rfl
  ·have hacc':acc.length≤1+p.bG.length:=by
    refine Nat.le_trans hacc (Nat.add_le_add_right ?_ _)
    cases (zQ x&&(yx p x.Space).dm) <;> simp
   unfold sU
   simp only []
   rw [bQ,dT (by omega),cond_true,ji hi,bS,JQ hp hN,qw (by omega)]
   show ((bif p.bG[i].dm then some (kJ p p.bG[i].Name (yx p x.Space).Name) else some 0).bind fun v13=>_)=_
   cases p.bG[i].dm with
   | false=>rfl
   | true =>
    rw [cond_true,bS,Bool.true_and,Bool.true_and,jr]
    cases decide (kJ p p.bG[i].Name (yx p x.Space).Name=1) with
    | false=>rfl
    | true=>rw [cond_true,zW (by simp only [List.length_singleton];omega)];rfl
  ·unfold sU
   simp only []
   rw [bQ,dF (by omega),cond_false]
 ·rw [dF h0,cond_false,cond_false,List.append_nil]
theorem Oi {p:GPermitPlan} {x:aG} (hp:EZ p):(G7 p x).length<2000:=by
 have hs:=hp.s
 unfold G7
 rw [List.length_append]
 have h1:(bif zQ x&&(yx p x.Space).dm then [(yx p x.Space).Name] else []).length≤1:=by cases (zQ x&&(yx p x.Space).dm) <;> simp
 have h2:(bif decide (x.Kind=0) then (p.bG.filter (fun s=>s.dm&&decide (kJ p s.Name (yx p x.Space).Name=1))).map (fun s=>s.Name) else []).length≤p.bG.length:=by
  cases decide (x.Kind=0) with
  | false=>exact Nat.zero_le _
  | true=>rw [cond_true,List.length_map];exact List.length_filter_le _ _
 omega
end Go.KB
namespace Go.KB
set_option linter.unusedVariables false
structure AO where
 now:Int
 es:Str→ah
 ts:Str→Option ay
 pp:List (Str×Str)
 done:List GEvent
def stA (A:AO) (s:Str):Int:=(A.es s).state
def UM (A:AO) (n:Str) (e:ah):AO:={ A with es:=fun s=>bif decide (s=n) then e else A.es s }
def OH (A:AO) (n:Str) (k:Int):AO:=UM A n { A.es n with state:=k }
def PD (p:GPermitPlan) (A:AO) (s:Str):Bool:=bif !(yx p s).dm then true else match A.ts s with
 | none=>false
 | some t=>decide (A.now - t.at_≤p.fC)&&decide (195≤t.mW)&&decide (t.mW≤235)&&decide (t.O9≤50)
def Pz (p:GPermitPlan) (A:AO) (s:Str):Bool:=bif !(yx p s).dm then true else match A.ts s with
 | none=>false
 | some t=>decide (A.now - t.at_≤p.fC)&&decide (195≤t.mW)&&decide (t.mW≤235)&&decide (t.O9≤50)&&decide (t.O9≤10)
def DF (p:GPermitPlan) (A:AO) (x:aG) (s:Str):Bool:=bif decide (x.Kind=0) then Pz p A s else PD p A s
def zS (p:GPermitPlan) (A:AO) (x:aG):List Str:=(G7 p x).filter fun s=>!DF p A x s
def DZ (A:AO) (x:aG):List Str:=x.Locks.filter fun s=>!decide (stA A s=2)
def wY (p:GPermitPlan) (A:AO) (x:aG):Bool:=!(zS p A x).isEmpty || !(DZ A x).isEmpty
def zY (now:Int) (e:ah):ah:=bif decide (e.state≤3)&&decide (e.xX≤now) then { e with state:=6 } else e
def zX (p:GPermitPlan) (A:AO):AO:={ A with es:=fun s=>bif lY p s then zY A.now (A.es s) else A.es s }
def yG (p:GPermitPlan) (A:AO):AO:={ A with es:=fun s=>bif lY p s&&decide (stA A s=2)&&wY p A (rF p s) then { A.es s with state:=3 } else A.es s }
def gQ (p:GPermitPlan) (A:AO):AO:=yG p (zX p A)
def mZ (p:GPermitPlan) (A:AO) (so:aG→Bool):List Str:=(p.aj.filter fun x=>decide (stA A x.Name=2)&&so x).map fun x=>x.Name
def yg (A:AO) (so:Str→Bool):List Str:=(A.pp.filter fun q=>so q.2).map fun q=>q.1
def EU (p:GPermitPlan) (A:AO) (x:aG):List bM :=
 (bif decide (A.now<x.From) then [(⟨2,[]⟩:bM)] else []) ++
 (([(⟨18,DZ A x⟩:bM),(⟨20,mZ p A (fun y=>wX p y x)⟩:bM),(⟨21,zS p A x⟩:bM)] ++ (bif decide (x.Kind=3) then [(⟨17,yg A (fun s=>decide (kJ p s x.Space≤1))⟩:bM)] else [])).filter fun r=>!r.Names.isEmpty)
def wG (p:GPermitPlan) (A:AO) (s:Str):Bool:=!(mZ p A (fun y=>decide (y.Kind=1)&&decide (y.Space=s))).isEmpty
def IE:List (Str×Str)→Str→Str→List (Str×Str)
 | [],n,s=>[(n,s)]
 | q :: r,n,s=>bif decide (q.1<n) then q :: IE r n s else (n,s) :: q :: r
def vI (A:AO) (e:Int) (l:List Str):AO×List Str×Int:=(A,l,e)
def Ap (A:AO):AO×List Str×Int:=(A,[],0)
def BJ (A:AO) (x:GEvent):AO×List Str×Int:=bif !lm x.Person then vI A 4 [] else Ap (UM A x.Name { A.es x.Name with state:=1,yY:=x.Person })
def zx (p:GPermitPlan) (A:AO) (x:GEvent):AO×List Str×Int :=
 bif !lm x.Person then vI A 4 [] else bif decide (x.Person=(A.es x.Name).yY) then vI A 26 [] else
 match EU p A (rF p x.Name) with
 | r :: _=>vI A r.Err r.Names
 | []=>Ap (OH A x.Name 2)
def Aq (p:GPermitPlan) (A:AO) (x:GEvent):AO×List Str×Int :=
 let y:=rF p x.Name
 bif decide (y.Kind=5) && !(mZ p A (fun z=>DR z.Locks y.Name)).isEmpty then vI A 20 (mZ p A (fun z=>DR z.Locks y.Name)) else
 bif decide (y.Kind=1)&&decide (stA A y.Name=2)&&(yx p y.Space).dm&&(mZ p A (fun z=>decide (z.Kind=1)&&decide (z.Space=y.Space) && !decide (z.Name=y.Name))).isEmpty && !(yg A (fun s=>decide (s=y.Space))).isEmpty then vI A 21 (yg A (fun s=>decide (s=y.Space))) else
 Ap (OH A x.Name 4)
def SI (p:GPermitPlan) (A:AO) (x:GEvent):AO×List Str×Int :=
 bif !vW p x.Space then vI A 6 [] else bif decide (x.nG<0)||decide (1000<x.nG)||decide (x.EY<0)||decide (1000<x.EY) then vI A 2 [] else
 Ap { A with ts:=fun s=>bif decide (s=x.Space) then some ⟨A.now,x.nG,x.EY⟩ else A.ts s }
def zl (A:AO) (n:Str):Bool:=A.pp.any fun q=>decide (q.1=n)
def Hl (p:GPermitPlan) (A:AO) (x:GEvent):AO×List Str×Int :=
 bif !lm x.Person then vI A 4 [] else bif !vW p x.Space then vI A 6 [] else bif zl A x.Person then vI A 18 [] else
 bif (yx p x.Space).dm && !wG p A x.Space then vI A 21 [] else
 bif !(mZ p A (fun y=>decide (y.Kind=3)&&decide (kJ p y.Space x.Space≤1))).isEmpty then vI A 17 (mZ p A (fun y=>decide (y.Kind=3)&&decide (kJ p y.Space x.Space≤1))) else
 Ap { A with pp:=IE A.pp x.Person x.Space }
def Hg (A:AO) (x:GEvent):AO×List Str×Int :=
 bif !lm x.Person then vI A 4 [] else bif !zl A x.Person then vI A 6 [] else Ap { A with pp:=A.pp.filter fun q=>!decide (q.1=x.Person) }
def Hf (p:GPermitPlan) (A:AO) (x:GEvent):AO×List Str×Int :=
 bif !vW p x.Space then vI A 6 [] else
 Ap { A with es:=fun s=>bif lY p s&&decide (stA A s=2)&&(!decide ((rF p s).Kind=5)&&decide (kJ p (rF p s).Space x.Space≤1)) then { A.es s with state:=3 } else A.es s }
def Ed (A:AO) (x:GEvent):AO×List Str×Int :=
 bif !lm x.Person then vI A 4 [] else bif decide (x.To≤(A.es x.Name).xX)||decide (1000000<x.To) then vI A 2 [] else Ap (UM A x.Name { A.es x.Name with xX:=x.To })
def wH (op:Int):Option (List Int):=if op=1 then some [0] else if op=2 then some [1] else if op=3 then some [2] else if op=4 then some [3] else if op=5 then some [2,3] else if op=6 then some [0,1] else if op=11 then some [1,2,3] else none
def vH (p:GPermitPlan) (A:AO) (x:GEvent):AO×List Str×Int :=
 if x.Op=0 then Ap A else if x.Op=1 then BJ A x else if x.Op=2 then zx p A x else if x.Op=3 then Ap (OH A x.Name 3) else if x.Op=4 then zx p A x else
 if x.Op=5 then Aq p A x else if x.Op=6 then Ap (OH A x.Name 5) else if x.Op=7 then SI p A x else if x.Op=8 then Hl p A x else if x.Op=9 then Hg A x else
 if x.Op=10 then Hf p A x else Ed A x
def vX (p:GPermitPlan) (A:AO) (x:GEvent):AO×List Str×Int :=
 match wH x.Op with
 | none=>vH p A x
 | some l=>bif !lY p x.Name then vI A 6 [] else bif !l.contains (stA A x.Name) then vI A 18 [] else vH p A x
def LG (p:GPermitPlan) (A:AO) (x:GEvent):AO×List Str×Int :=
 bif decide (x.Op<0)||decide (12≤x.Op)||decide (x.At<0)||decide (1000000<x.At) then vI A 2 [] else bif decide (x.At<A.now) then vI A 10 [] else
 let r:=vX p (gQ p { A with now:=x.At }) x
 bif decide (r.2.2=0) then ({ gQ p r.1 with done:=A.done ++ [x] },[],0) else r
def Oa (p:GPermitPlan):AO:=gQ p ⟨0,fun s=>bif lY p s then ⟨0,[],(rF p s).To⟩ else ⟨0,[],0⟩,fun _=>none,[],[]⟩
end Go.KB
