/- Plain laws of chapter 7: what a valid plan is, nearness, exclusion, needs. Plain laws of chapter 7: loops that filter, find and delete. Plain laws of chapter 7: near and needs of the program. Plain laws of chapter 7: what an office does, by names. No condition. -/
import Derived.Test.YtalkbgomndhkmaaGreatPZl
namespace Go.KB
set_option linter.unusedVariables false
def IW (l:List Str) (s:Str):Bool:=l.any (fun x=>decide (s=x))
theorem Ya {l:List Str} {s:Str}:IW l s=true↔s ∈ l:=by
 unfold IW;rw [List.any_eq_true]
 constructor
 ·rintro ⟨x,h1,h2⟩;rw [decide_eq_true_eq] at h2;rw [h2];exact h1
 ·intro h;exact ⟨s,h,by simp⟩
theorem Ce {p:GPermitPlan} {s:Str}:mg p s=true↔∃ y ∈ p.ax,y.Name=s:=by
 unfold mg;rw [List.any_eq_true];simp [Lu]
theorem KI {α:Type} {z:α} {g:α→Bool} {l:List α} (h:l.any g=true):(xU z g l).1 ∈ l∧g (xU z g l).1=true:=by
 unfold xU
 cases h2:l.find? g with
 | none=>rw [List.any_eq_true] at h;obtain ⟨x,hx,hg⟩:=h;exact absurd hg (by simpa using List.find?_eq_none.1 h2 x hx)
 | some y=>exact ⟨List.mem_of_find?_eq_some h2,List.find?_some h2⟩
theorem WE {p:GPermitPlan} {s:Str} (h:zH p s=true):yF p s ∈ p.bK∧(yF p s).Name=s:=by
 have:=KI (z:=(⟨[],false,[]⟩:bV)) h
 exact ⟨this.1,of_decide_eq_true this.2⟩
theorem yT {p:GPermitPlan} {s:Str} (h:mg p s=true):qH p s ∈ p.ax∧(qH p s).Name=s:=by
 have:=KI (z:=(⟨[],0,[],0,0,[]⟩:aA)) h
 exact ⟨this.1,of_decide_eq_true this.2⟩
structure IU (p:GPermitPlan):Prop where
 ns:p.bK.length≤30
 ne:p.dh.length≤30
 np:p.ax.length≤20
 gm:1≤p.dS∧p.dS≤10000
 sn:∀ y ∈ p.bK,kz y.Name=true
 sd:∀ i j,i<p.bK.length→j<p.bK.length→p.bK[i]!.Name=p.bK[j]!.Name→i=j
 nx:∀ y ∈ p.bK,∀ n ∈ y.Next,zH p n=true∧n≠y.Name
 xk:∀ e ∈ p.dh,yB e.A=true∧yB e.B=true∧0≤e.Reach∧e.Reach≤2
 pn:∀ y ∈ p.ax,kz y.Name=true
 pd:∀ i j,i<p.ax.length→j<p.ax.length→p.ax[i]!.Name=p.ax[j]!.Name→i=j
 pk:∀ y ∈ p.ax,yB y.Kind=true∧0≤y.From∧y.From<y.To∧y.To≤1000000∧zH p y.Space=true
 lk:∀ y ∈ p.ax,∀ l ∈ y.Locks,mg p l=true∧(qH p l).Kind=5∧y.Kind≠5
theorem S9 {a b:Int} (h:Eu a b=0):a=0∧b=0:=by
 unfold Eu at h
 by_cases h0:a=0
 ·rw [if_pos h0] at h;exact ⟨h0,h⟩
 ·rw [if_neg h0] at h;exact absurd h h0
theorem A8 {α:Type} [Inhabited α] {l:List α} {e:Nat→Int} {y:α} (h:gq e l.length 0=0) (hy:y ∈ l):∃ i,i<l.length∧l[i]! = y∧e i=0:=by
 obtain ⟨i,hi,rfl⟩:=List.getElem_of_mem hy
 exact ⟨i,hi,En hi,Bz h i (by omega) (by omega)⟩
theorem Tc {nm:Nat→Str} {n:Nat} (h:∀ i,i<n→dup nm i (nm i)=false):∀ i j,i<n→j<n→nm i=nm j→i=j:=by
 have key:∀ i j,i<j→j<n→nm i≠nm j:=fun i j hij hj he=>by
  have:=(Og nm (nm j) j).2 ⟨i,hij,he⟩
  rw [h j hj] at this;cases this
 intro i j hi hj he
 rcases Nat.lt_trichotomy i j with h1 | h1 | h1
 ·exact absurd he (key i j h1 hj)
 ·exact h1
 ·exact absurd he.symm (key j i h1 hi)
theorem eSp0 {p:GPermitPlan} {i:Nat} (h:WG p i=0):kz (G7 p i)=true∧dup (G7 p) i (G7 p i)=false:=by
 unfold WG at h
 split at h
 ·cases h
 ·rename_i h1
  split at h
  ·cases h
  ·rename_i h2;exact ⟨by simpa using h1,by simpa using h2⟩
theorem ZU {p:GPermitPlan} {i:Nat} (h:Yv p i=0):kz (Jm p i)=true∧dup (Jm p) i (Jm p i)=false∧yB p.ax[i]!.Kind=true∧0≤p.ax[i]!.From∧p.ax[i]!.From<p.ax[i]!.To∧p.ax[i]!.To≤1000000∧zH p p.ax[i]!.Space=true:=by
 unfold Yv at h
 split at h
 ·cases h
 ·rename_i h1
  split at h
  ·cases h
  ·rename_i h2
   split at h
   ·cases h
   ·rename_i h3
    split at h
    ·cases h
    ·rename_i h4
     simp only [not_or] at h3
     refine ⟨by simpa using h1,by simpa using h2,by simpa using h3.1,by omega,by omega,by omega,by simpa using h4⟩
theorem okP {p:GPermitPlan} (h:qm p=0):IU p:=by
 unfold qm at h
 split at h
 ·cases h
 rename_i hb
 split at h
 ·cases h
 rename_i hg
 obtain ⟨h1,h2⟩:=S9 h
 obtain ⟨h1,h3⟩:=S9 h1
 obtain ⟨h4,h5⟩:=S9 h2
 obtain ⟨h5,h6⟩:=S9 h5
 refine ⟨by omega,by omega,by omega,by omega,?_,?_,?_,?_,?_,?_,?_,?_⟩
 ·intro y hy;obtain ⟨i,hi,rfl,he⟩:=A8 h1 hy;exact (eSp0 he).1
 ·exact Tc (nm:=G7 p) fun i hi=>(eSp0 (Bz h1 i (by omega) (by omega))).2
 ·intro y hy n hn
  obtain ⟨i,hi,rfl,he⟩:=A8 h3 hy
  obtain ⟨j,hj,rfl,he⟩:=A8 he hn
  unfold eNx at he
  split at he
  ·cases he
  ·rename_i a
   split at he
   ·cases he
   ·rename_i b;exact ⟨by simpa using a,b⟩
 ·intro y hy
  obtain ⟨i,hi,rfl,he⟩:=A8 h4 hy
  unfold eEx at he
  split at he
  ·cases he
  ·rename_i a;simp only [not_or] at a;exact ⟨by simpa using a.1,by simpa using a.2.1,by omega,by omega⟩
 ·intro y hy;obtain ⟨i,hi,rfl,he⟩:=A8 h5 hy;exact (ZU he).1
 ·exact Tc (nm:=Jm p) fun i hi=>(ZU (Bz h5 i (by omega) (by omega))).2.1
 ·intro y hy;obtain ⟨i,hi,rfl,he⟩:=A8 h5 hy;exact (ZU he).2.2
 ·intro y hy n hn
  obtain ⟨i,hi,rfl,he⟩:=A8 h6 hy
  obtain ⟨j,hj,rfl,he⟩:=A8 he hn
  unfold eLk at he
  split at he
  ·cases he
  ·rename_i a
   split at he
   ·cases he
   ·rename_i b;simp only [not_or] at b;exact ⟨by simpa using a,by simpa using b.1,b.2⟩
theorem IU.sm {p:GPermitPlan} {N:Nat} (hp:Fa p):Fa p:=hp
theorem IU.Em {p:GPermitPlan} (h:IU p) {x:aA} (hx:x ∈ p.ax):qH p x.Name=x:=by
 have h1:mg p x.Name=true:=Ce.2 ⟨x,hx,rfl⟩
 obtain ⟨h2,h3⟩:=yT h1
 obtain ⟨i,hi,he⟩:=List.getElem_of_mem h2
 obtain ⟨j,hj,hf⟩:=List.getElem_of_mem hx
 have:=h.pd i j hi hj (by rw [En hi,En hj,he,hf,h3])
 subst this
 rw [← he,hf]
def oQ (p:GPermitPlan) (a b:Str):Int:=if a=b then 0 else bif IW (yF p a).Next b||IW (yF p b).Next a then 1 else 2
theorem Rx (p:GPermitPlan) (a b:Str):oQ p a b=oQ p b a:=by
 unfold oQ
 by_cases h:a=b
 ·subst h;rfl
 ·rw [if_neg h,if_neg (fun x=>h x.symm),Bool.or_comm]
def exE (e:bF) (d k m:Int):Bool:=decide (d≤e.Reach)&&((decide (e.A=k)&&decide (e.B=m))||(decide (e.A=m)&&decide (e.B=k)))
theorem WH (e:bF) (d k m:Int):exE e d k m=exE e d m k:=by unfold exE;rw [Bool.or_comm]
def tX (p:GPermitPlan) (x y:aA):Bool:=bif decide (x.Name=y.Name) then false else p.dh.any (fun e=>exE e (oQ p x.Space y.Space) x.Kind y.Kind)
theorem F8 (p:GPermitPlan) (x y:aA):tX p x y=tX p y x:=by
 unfold tX
 rw [Rx p y.Space x.Space,show decide (y.Name=x.Name)=decide (x.Name=y.Name) from decide_eq_decide.2 ⟨Eq.symm,Eq.symm⟩]
 congr 2
 funext e
 exact WH ..
theorem Rt (p:GPermitPlan) (x:aA):tX p x x=false:=by unfold tX;simp
def Ep (x:aA):Bool:=decide (x.Kind=0)||(decide (x.Kind=1)||decide (x.Kind=2))
def Ej (p:GPermitPlan) (x:aA):List Str:=(bif Ep x&&(yF p x.Space).dW then [(yF p x.Space).Name] else []) ++ (bif decide (x.Kind=0) then (p.bK.filter (fun s=>s.dW&&decide (oQ p s.Name (yF p x.Space).Name=1))).map (fun s=>s.Name) else [])
end Go.KB
namespace Go.KB
set_option linter.unusedVariables false
theorem DU {α:Type} {xs ys:List α} (h:xs.length+ys.length≤lim):app xs ys=some (xs ++ ys):=by
 unfold app;rw [Nat.ble_eq_true_of_le h];rfl
theorem Iq {S O:Type} {n N:Nat} {f:S→Option (S ⊕ O)} (g:Nat→S) (r:O) (h:∀ i:Nat,i<n→f (g i)=some (.inl (g (i+1)))) (he:f (g n)=some (.inr r)) (hN:n<N):bZ f N (g 0)=some r:=by
 have key:∀ k i,i+k=n→∀ M,k<M→bZ f M (g i)=some r:=by
  intro k
  induction k with
  | zero =>
   intro i hi M hM
   obtain ⟨M,rfl⟩:∃ m,M=m+1:=⟨M - 1,by omega⟩
   have:i=n:=by omega
   subst this
   simp only [bZ,he]
  | succ k ih =>
   intro i hi M hM
   obtain ⟨M,rfl⟩:∃ m,M=m+1:=⟨M - 1,by omega⟩
   simp only [bZ,h i (by omega)]
   exact ih (i+1) (by omega) M (by omega)
 exact key n 0 (by omega) N (by omega)
theorem F7 {S O α T:Type} {N:Nat} {f:S→Option (S ⊕ O)} (l:List α) (t0:T) (stp:T→α→T) (mk:T→Int→S) (out:T→O) (hf:∀ (i:Nat) (hi:i<l.length) (t:T),t=(l.take i).foldl stp t0→f (mk t (i:Int))=some (.inl (mk (stp t l[i]) ((i+1:Nat):Int)))) (he:∀ t,f (mk t (l.length:Int))=some (.inr (out t))) (hN:l.length<N):bZ f N (mk t0 0)=some (out (l.foldl stp t0)):=by
 refine Iq (n:=l.length) (fun i=>mk ((l.take i).foldl stp t0) (i:Int)) _ (fun i hi=>?_) ?_ hN
 ·rw [hf i hi _ rfl,List.take_succ_eq_append_getElem hi,List.foldl_append];rfl
 ·rw [List.take_length];exact he _
theorem foldl_filter {α β : Type} (g : α → Bool) (h : α → β) : ∀ (l : List α) (a : List β), l.foldl (fun acc x => bif g x then acc ++ [h x] else acc) a = a ++ (l.filter g).map h
  | [],a=>by simp
  | x :: r,a=>by
    simp only [List.foldl_cons,foldl_filter g h r,List.filter_cons]
    cases g x <;> simp
theorem Uw {α β:Type} (g:α→Bool) (h:α→β):∀ (l:List α) (a:List β),(l.foldl (fun acc x=>bif g x then acc ++ [h x] else acc) a).length≤a.length+l.length:=fun l a=>by
 rw [foldl_filter,List.length_append,List.length_map]
 have:=List.length_filter_le g l
 omega
theorem EL {S O α β:Type} {N:Nat} {f:S→Option (S ⊕ O)} (l:List α) (a:List β) (g:α→Bool) (h:α→β) (mk:List β→Int→S) (out:List β→O) (hf:∀ (i:Nat) (hi:i<l.length) (acc:List β),acc.length≤a.length+l.length→f (mk acc (i:Int))=some (.inl (mk (bif g l[i] then acc ++ [h l[i]] else acc) ((i+1:Nat):Int)))) (he:∀ t,f (mk t (l.length:Int))=some (.inr (out t))) (hN:l.length<N):bZ f N (mk a 0)=some (out (a ++ (l.filter g).map h)):=by
 rw [F7 (f:=f) l a (fun acc x=>bif g x then acc ++ [h x] else acc) mk out (fun i hi t ht=>?_) he hN,foldl_filter]
 refine hf i hi t ?_
 rw [ht]
 have:=Uw g h (l.take i) a
 rw [List.length_take] at this
 omega
theorem Ru {α:Type} {l:List α} {a b:Nat} (h:a≤b) (hb:b≤l.length):QY l (a:Int) (b:Int)=some ((l.take b).drop a):=by
 unfold QY
 rw [dT (by omega),dT (by omega),dT (by omega)];rfl
theorem WI {N:Nat} {f:(List Str×Int×Int)→Option ((List Str×Int×Int) ⊕ (List Str×Int))} {l:List Str} {g:Str→Bool} (hf:∀ (xs:List Str) (i j:Nat),(hj:j<xs.length)→i≤j→j<1000000→xs[j] ∈ l→f (xs,(i:Int),(j:Int))=bif !g xs[j] then some (.inl (xs.set i xs[j],((i+1:Nat):Int),((j+1:Nat):Int))) else some (.inl (xs,(i:Int),((j+1:Nat):Int)))) (he:∀ (xs:List Str) (i:Int),f (xs,i,(xs.length:Int))=some (.inr (xs,i))) (hl:l.length<1000000) (hN:1000000≤N) {i0:Nat} (h0:i0<l.length) (hi:l.findIdx g=i0) :
    ∃ xs,bZ f N (l,(i0:Int),((i0+1:Nat):Int))=some (xs,((l.filter fun s=>!g s).length:Int))∧xs.length=l.length∧xs.take (l.filter fun s=>!g s).length=l.filter fun s=>!g s:=by
  have key:∀ k i j xs,j+k=l.length→i≤j→xs.length=l.length→xs.take i=(l.take j).filter (fun s=>!g s)→xs.drop j=l.drop j→i=((l.take j).filter (fun s=>!g s)).length→∀ M,k<M →
      ∃ ys,bZ f M (xs,(i:Int),(j:Int))=some (ys,((l.filter fun s=>!g s).length:Int))∧ys.length=l.length∧ys.take (l.filter fun s=>!g s).length=l.filter fun s=>!g s:=by
    intro k
    induction k with
    | zero =>
      intro i j xs hj hij hx h1 h2 h3 M hM
      obtain ⟨M,rfl⟩:∃ m,M=m+1:=⟨M - 1,by omega⟩
      have:j=xs.length:=by omega
      subst this
      rw [hx,List.take_length] at h1 h3
      refine ⟨xs,?_,hx,by rw [← h3];exact h1⟩
      simp only [bZ,he,h3]
    | succ k ih =>
      intro i j xs hj hij hx h1 h2 h3 M hM
      obtain ⟨M,rfl⟩:∃ m,M=m+1:=⟨M - 1,by omega⟩
      have hjx:j<xs.length:=by omega
      have hjl:j<l.length:=by omega
      have hxj:xs[j]=l[j]:=by
        have:=congrArg (fun l=>l[0]?) h2
        simp only [List.getElem?_drop,Nat.add_zero] at this
        rw [List.getElem?_eq_getElem hjx,List.getElem?_eq_getElem hjl] at this
        exact Option.some.inj this
      have hd:xs.drop (j+1)=l.drop (j+1):=by rw [← List.drop_drop,← List.drop_drop,h2]
      simp only [bZ,hf xs i j hjx hij (by omega) (by rw [hxj];exact List.getElem_mem hjl)]
      rw [hxj]
      have htk:(l.take (j+1)).filter (fun s=>!g s)=(l.take j).filter (fun s=>!g s) ++ [l[j]].filter (fun s=>!g s):=by
        rw [List.take_succ_eq_append_getElem hjl,List.filter_append]
      cases hg:g l[j] with
      | false =>
        have hone:[l[j]].filter (fun s=>!g s)=[l[j]]:=by simp [hg]
        rw [hone] at htk
        simp only [Bool.not_false,lN]
        refine ih (i+1) (j+1) (xs.set i l[j]) (by omega) (by omega) (by simpa using hx) ?_ ?_ ?_ M (by omega)
        · rw [htk, ← h1, List.take_succ_eq_append_getElem (by simp; omega), List.take_set_of_le (Nat.le_refl _)]
          simp
        · rw [List.drop_set_of_lt (by omega)];exact hd
        · rw [htk,List.length_append,← h3];rfl
      | true =>
        have hone:[l[j]].filter (fun s=>!g s)=[]:=by simp [hg]
        rw [hone,List.append_nil] at htk
        simp only [Bool.not_true,lM]
        exact ih i (j+1) xs (by omega) (by omega) hx (by rw [htk];exact h1) hd (by rw [htk];exact h3) M (by omega)
  have hpre:(l.take i0).filter (fun s=>!g s)=l.take i0:=by
    refine List.filter_eq_self.2 fun a ha=>?_
    obtain ⟨j,hj,rfl⟩:=List.getElem_of_mem ha
    rw [List.length_take] at hj
    have:=List.not_of_lt_findIdx (p:=g) (xs:=l) (i:=j) (by omega)
    rw [List.getElem_take]
    simpa using this
  have hat:g l[i0]=true:=by subst hi;exact List.findIdx_getElem
  refine key (l.length - (i0+1)) i0 (i0+1) l (by omega) (by omega) rfl ?_ rfl ?_ N (by omega)
  · rw [List.take_succ_eq_append_getElem h0,List.filter_append,hpre];simp [hat]
  · rw [List.take_succ_eq_append_getElem h0,List.filter_append,hpre];simp [hat];omega
theorem del_eq {N:Nat} {f:(List Str×Int×Int)→Option ((List Str×Int×Int) ⊕ (List Str×Int))} {l:List Str} {g:Str→Bool} (hf:∀ (xs:List Str) (i j:Nat),(hj:j<xs.length)→i≤j→j<1000000→xs[j] ∈ l→f (xs,(i:Int),(j:Int))=bif !g xs[j] then some (.inl (xs.set i xs[j],((i+1:Nat):Int),((j+1:Nat):Int))) else some (.inl (xs,(i:Int),((j+1:Nat):Int)))) (he:∀ (xs:List Str) (i:Int),f (xs,i,(xs.length:Int))=some (.inr (xs,i))) (hl:l.length<1000000) (hN:1000000≤N) :
    (bif (aN .eql (Ik g l) (-1)) then (some l) else ((bZ f N (l,Ik g l,(IntKind.i64.wrap (Ik g l+1)))).bind fun o8=>(QY o8.1 o8.2 (List.length o8.1:Int)).bind fun v10=>(bif Nat.beq ((Int.toNat o8.2)+(Int.toNat (List.length o8.1:Int) - Int.toNat o8.2)) (List.length o8.1) then some (List.take (Int.toNat o8.2) o8.1 ++ List.replicate (Int.toNat (List.length o8.1:Int) - Int.toNat o8.2) []) else none).bind fun v11=>(QY v11 0 o8.2).bind fun v12=>some v12))=some (l.filter fun s=>!g s):=by
  rw [rM]
  by_cases h:l.findIdx g<l.length
  · rw [Ba h, dF (by omega), lM, nY (by omega)]
    obtain ⟨xs,h1,h2,h3⟩:=WI hf he hl hN h rfl
    rw [h1,bS]
    simp only []
    have hk:(l.filter fun s=>!g s).length≤xs.length:=by rw [h2];exact List.length_filter_le _ _
    generalize hkk:(l.filter fun s=>!g s).length=k at h3 hk
    rw [Ru hk (Nat.le_refl _),bS,Int.toNat_natCast,Int.toNat_natCast,show Nat.beq (k+(xs.length - k)) xs.length=true from by rw [Nat.beq_eq];omega,lN,bS]
    have e0:QY (List.take k xs ++ List.replicate (xs.length - k) []) 0 (k:Int)=some (((List.take k xs ++ List.replicate (xs.length - k) []).take k).drop 0):=Ru (a:=0) (Nat.zero_le _) (by simp;omega)
    rw [e0,bS,List.drop_zero,List.take_append_of_le_length (by simp;omega),List.take_take,Nat.min_self,h3]
  · rw [Dx h,dT rfl,lN]
    congr 1
    refine (List.filter_eq_self.2 fun a ha=>?_).symm
    cases hg:g a with
    | false=>rfl
    | true=>exact absurd (List.findIdx_lt_length.2 ⟨a,ha,hg⟩) h
end Go.KB
namespace Go.KB
set_option linter.unusedVariables false
theorem KJ {N:Nat} {l:List Str} {s:Str} (hl:l.length<1000000) (hN:1000000≤N):fO N l s=some (IW l s):=by
 unfold fO nS
 have h:((bZ (jB N l s) N 0).bind fun o5=>Sum.elim (fun l7=>some (-1:Int)) (fun r8=>some r8) o5)=some (Ik (fun x=>decide (s=x)) l):=by
  refine uJ (fun i hi=>?_) ?_ (by omega)
  ·unfold jB
   rw [bH,dT (by omega),lN,ig hi,bS,qN,nY (by omega)]
  ·unfold jB
   rw [bH,dF (by omega),lM]
 rw [h,bS,wS]
 have:=Dw (g:=fun x=>decide (s=x)) (l:=l)
 unfold IW
 cases h2:l.any (fun x=>decide (s=x)) with
 | true=>rw [h2] at this;simp at this;rw [dT (by omega)]
 | false=>rw [h2] at this;simp at this;rw [dF (by omega)]
theorem GX {N:Nat} {l:List Int} {s:Int} (hl:l.length<1000000) (hN:1000000≤N):kW N l s=some (l.contains s):=by
 unfold kW qQ
 have h:((bZ (kV N l s) N 0).bind fun o5=>Sum.elim (fun l7=>some (-1:Int)) (fun r8=>some r8) o5)=some (Ik (fun x=>decide (s=x)) l):=by
  refine uJ (fun i hi=>?_) ?_ (by omega)
  ·unfold kV
   rw [bH,dT (by omega),lN,ig hi,bS,rM,nY (by omega)]
  ·unfold kV
   rw [bH,dF (by omega),lM]
 rw [h,bS,wS]
 have:=Dw (g:=fun x=>decide (s=x)) (l:=l)
 have e:l.contains s=l.any (fun x=>decide (s=x)):=by
  rw [Bool.eq_iff_iff,List.contains_iff_mem,List.any_eq_true];simp
 rw [e]
 cases h2:l.any (fun x=>decide (s=x)) with
 | true=>rw [h2] at this;simp at this;rw [dT (by omega)]
 | false=>rw [h2] at this;simp at this;rw [dF (by omega)]
theorem Fa.next {p:GPermitPlan} (hp:Fa p) (s:Str):(yF p s).Next.length<1000:=by
 unfold yF xU
 cases h:p.bK.find? (isS s) with
 | none=>simp
 | some y=>exact hp.n y (List.mem_of_find?_eq_some h)
theorem G5 {N:Nat} {p:GPermitPlan} {a b:Str} (hp:Fa p) (hN:1000000≤N):oU N p a b=some (oQ p a b):=by
  unfold oU oQ
  have hs:=hp.s
  have h1:=hp.next a
  have h2:=hp.next b
  rw [xg (by omega) hN,xg (by omega) hN,bS,bS,qN]
  by_cases h:a=b
  · rw [dT h,if_pos h];rfl
  · rw [dF h, if_neg h, lM, show fO N (xU _ (isS a) p.bK).1.Next b = _ from KJ (by exact Nat.lt_trans h1 (by decide)) hN, show fO N (xU _ (isS b) p.bK).1.Next a = _ from KJ (by exact Nat.lt_trans h2 (by decide)) hN, bS]
    show ((bif (!IW (yF p a).Next b) then some (IW (yF p b).Next a) else some false).bind fun v4=>bif (IW (yF p a).Next b||v4) then (some (1:Int)) else (some 2))=_
    cases IW (yF p a).Next b with
    | true=>rfl
    | false=>cases IW (yF p b).Next a <;> rfl
theorem Wx {N:Nat} {p:GPermitPlan} {x:aA} (hp:Fa p) (hN:1000000≤N):vV N p x=some (Ej p x):=by
 unfold vV Ej
 have hs:=hp.s
 have hlim:lim ≥ 1000000:=by decide
 rw [xg (by omega) hN,bS]
 have hk:(bif (aN .eql x.Kind 0) then (some (aN .eql x.Kind 0)) else (bif (aN .eql x.Kind 1) then (some (aN .eql x.Kind 1)) else (some (aN .eql x.Kind 2))))=some (Ep x):=by
  unfold Ep
  simp only [rM]
  cases decide (x.Kind=0) <;> cases decide (x.Kind=1) <;> cases decide (x.Kind=2) <;> rfl
 rw [hk,bS]
 have ho:(bif Ep x then (bif (xU (⟨[],false,[]⟩:bV) (isS x.Space) p.bK).1.dW then ((app [] [(xU (⟨[],false,[]⟩:bV) (isS x.Space) p.bK).1.Name]).bind fun v6=>some v6) else (some [])) else (some []))=some (bif Ep x&&(yF p x.Space).dW then [(yF p x.Space).Name] else []):=by
  show (bif Ep x then (bif (yF p x.Space).dW then ((app [] [(yF p x.Space).Name]).bind fun v6=>some v6) else (some [])) else (some []))=_
  rw [DU (by simp only [List.length_nil,List.length_singleton];omega)]
  cases Ep x <;> cases (yF p x.Space).dW <;> rfl
 rw [ho,bS,rM]
 by_cases h0:x.Kind=0
 ·rw [dT h0,lN,lN]
  rw [EL (f:=qF N p (xU (⟨[],false,[]⟩:bV) (isS x.Space) p.bK)) p.bK _ (fun s=>s.dW&&decide (oQ p s.Name (yF p x.Space).Name=1)) (fun s=>s.Name) (fun a i=>(a,i)) (fun a=>a) (fun i hi acc hacc=>?_) (fun acc=>?_) (by omega)]
  ·rfl
  ·have hacc':acc.length≤1+p.bK.length:=by
    refine Nat.le_trans hacc (Nat.add_le_add_right ?_ _)
    cases (Ep x&&(yF p x.Space).dW) <;> simp
   unfold qF
   simp only []
   rw [bH,dT (by omega),lN,ig hi,bS,G5 hp hN,nY (by omega)]
   show ((bif p.bK[i].dW then some (oQ p p.bK[i].Name (yF p x.Space).Name) else some 0).bind fun v13=>_)=_
   cases p.bK[i].dW with
   | false=>rfl
   | true =>
    rw [lN,bS,Bool.true_and,Bool.true_and,rM]
    cases decide (oQ p p.bK[i].Name (yF p x.Space).Name=1) with
    | false=>rfl
    | true=>rw [lN,DU (by simp only [List.length_singleton];omega)];rfl
  ·unfold qF
   simp only []
   rw [bH,dF (by omega),lM]
 ·rw [dF h0,lM,lM,List.append_nil]
theorem Wv {p:GPermitPlan} {x:aA} (hp:Fa p):(Ej p x).length<2000:=by
 have hs:=hp.s
 unfold Ej
 rw [List.length_append]
 have h1:(bif Ep x&&(yF p x.Space).dW then [(yF p x.Space).Name] else []).length≤1:=by cases (Ep x&&(yF p x.Space).dW) <;> simp
 have h2:(bif decide (x.Kind=0) then (p.bK.filter (fun s=>s.dW&&decide (oQ p s.Name (yF p x.Space).Name=1))).map (fun s=>s.Name) else []).length≤p.bK.length:=by
  cases decide (x.Kind=0) with
  | false=>exact Nat.zero_le _
  | true=>rw [lN,List.length_map];exact List.length_filter_le _ _
 omega
end Go.KB
namespace Go.KB
set_option linter.unusedVariables false
structure AO where
 now:Int
 es:Str→af
 ts:Str→Option aj
 pp:List (Str×Str)
 done:List GEvent
def stA (A:AO) (s:Str):Int:=(A.es s).state
def Xg (A:AO) (n:Str) (e:af):AO:={ A with es:=fun s=>bif decide (s=n) then e else A.es s }
def beA (A:AO) (n:Str) (k:Int):AO:=Xg A n { A.es n with state:=k }
def Ws (p:GPermitPlan) (A:AO) (s:Str):Bool:=bif !(yF p s).dW then true else match A.ts s with
 | none=>false
 | some t=>decide (A.now - t.at_≤p.dS)&&decide (195≤t.lK)&&decide (t.lK≤235)&&decide (t.QC≤50)
def Wu (p:GPermitPlan) (A:AO) (s:Str):Bool:=bif !(yF p s).dW then true else match A.ts s with
 | none=>false
 | some t=>decide (A.now - t.at_≤p.dS)&&decide (195≤t.lK)&&decide (t.lK≤235)&&decide (t.QC≤50)&&decide (t.QC≤10)
def MI (p:GPermitPlan) (A:AO) (x:aA) (s:Str):Bool:=bif decide (x.Kind=0) then Wu p A s else Ws p A s
def Fp (p:GPermitPlan) (A:AO) (x:aA):List Str:=(Ej p x).filter fun s=>!MI p A x s
def Il (A:AO) (x:aA):List Str:=x.Locks.filter fun s=>!decide (stA A s=2)
def yS (p:GPermitPlan) (A:AO) (x:aA):Bool:=!(Fp p A x).isEmpty || !(Il A x).isEmpty
def Kv (now:Int) (e:af):af:=bif decide (e.state≤3)&&decide (e.Be≤now) then { e with state:=6 } else e
def Eo (p:GPermitPlan) (A:AO):AO:={ A with es:=fun s=>bif mg p s then Kv A.now (A.es s) else A.es s }
def Cc (p:GPermitPlan) (A:AO):AO:={ A with es:=fun s=>bif mg p s&&decide (stA A s=2)&&yS p A (qH p s) then { A.es s with state:=3 } else A.es s }
def iJ (p:GPermitPlan) (A:AO):AO:=Cc p (Eo p A)
def lI (p:GPermitPlan) (A:AO) (so:aA→Bool):List Str:=(p.ax.filter fun x=>decide (stA A x.Name=2)&&so x).map fun x=>x.Name
def Ai (A:AO) (so:Str→Bool):List Str:=(A.pp.filter fun q=>so q.2).map fun q=>q.1
def Lr (p:GPermitPlan) (A:AO) (x:aA):List bT :=
 (bif decide (A.now<x.From) then [(⟨2,[]⟩:bT)] else []) ++
 (([(⟨18,Il A x⟩:bT),(⟨20,lI p A (fun y=>tX p y x)⟩:bT),(⟨21,Fp p A x⟩:bT)] ++ (bif decide (x.Kind=3) then [(⟨17,Ai A (fun s=>decide (oQ p s x.Space≤1))⟩:bT)] else [])).filter fun r=>!r.Names.isEmpty)
def zI (p:GPermitPlan) (A:AO) (s:Str):Bool:=!(lI p A (fun y=>decide (y.Kind=1)&&decide (y.Space=s))).isEmpty
def Io:List (Str×Str)→Str→Str→List (Str×Str)
 | [],n,s=>[(n,s)]
 | q :: r,n,s=>bif decide (q.1<n) then q :: Io r n s else (n,s) :: q :: r
def wO (A:AO) (e:Int) (l:List Str):AO×List Str×Int:=(A,l,e)
def DV (A:AO):AO×List Str×Int:=(A,[],0)
def GY (A:AO) (x:GEvent):AO×List Str×Int:=bif !kz x.Person then wO A 4 [] else DV (Xg A x.Name { A.es x.Name with state:=1,Gt:=x.Person })
def Et (p:GPermitPlan) (A:AO) (x:GEvent):AO×List Str×Int :=
 bif !kz x.Person then wO A 4 [] else bif decide (x.Person=(A.es x.Name).Gt) then wO A 26 [] else
 match Lr p A (qH p x.Name) with
 | r :: _=>wO A r.Err r.Names
 | []=>DV (beA A x.Name 2)
def EP (p:GPermitPlan) (A:AO) (x:GEvent):AO×List Str×Int :=
 let y:=qH p x.Name
 bif decide (y.Kind=5) && !(lI p A (fun z=>IW z.Locks y.Name)).isEmpty then wO A 20 (lI p A (fun z=>IW z.Locks y.Name)) else
 bif decide (y.Kind=1)&&decide (stA A y.Name=2)&&(yF p y.Space).dW&&(lI p A (fun z=>decide (z.Kind=1)&&decide (z.Space=y.Space) && !decide (z.Name=y.Name))).isEmpty && !(Ai A (fun s=>decide (s=y.Space))).isEmpty then wO A 21 (Ai A (fun s=>decide (s=y.Space))) else
 DV (beA A x.Name 4)
def X4 (p:GPermitPlan) (A:AO) (x:GEvent):AO×List Str×Int :=
 bif !zH p x.Space then wO A 6 [] else bif decide (x.vS<0)||decide (1000<x.vS)||decide (x.OH<0)||decide (1000<x.OH) then wO A 2 [] else
 DV { A with ts:=fun s=>bif decide (s=x.Space) then some ⟨A.now,x.vS,x.OH⟩ else A.ts s }
def Dv (A:AO) (n:Str):Bool:=A.pp.any fun q=>decide (q.1=n)
def Ob (p:GPermitPlan) (A:AO) (x:GEvent):AO×List Str×Int :=
 bif !kz x.Person then wO A 4 [] else bif !zH p x.Space then wO A 6 [] else bif Dv A x.Person then wO A 18 [] else
 bif (yF p x.Space).dW && !zI p A x.Space then wO A 21 [] else
 bif !(lI p A (fun y=>decide (y.Kind=3)&&decide (oQ p y.Space x.Space≤1))).isEmpty then wO A 17 (lI p A (fun y=>decide (y.Kind=3)&&decide (oQ p y.Space x.Space≤1))) else
 DV { A with pp:=Io A.pp x.Person x.Space }
def Oc (A:AO) (x:GEvent):AO×List Str×Int :=
 bif !kz x.Person then wO A 4 [] else bif !Dv A x.Person then wO A 6 [] else DV { A with pp:=A.pp.filter fun q=>!decide (q.1=x.Person) }
def Oe (p:GPermitPlan) (A:AO) (x:GEvent):AO×List Str×Int :=
 bif !zH p x.Space then wO A 6 [] else
 DV { A with es:=fun s=>bif mg p s&&decide (stA A s=2)&&(!decide ((qH p s).Kind=5)&&decide (oQ p (qH p s).Space x.Space≤1)) then { A.es s with state:=3 } else A.es s }
def Jk (A:AO) (x:GEvent):AO×List Str×Int :=
 bif !kz x.Person then wO A 4 [] else bif decide (x.To≤(A.es x.Name).Be)||decide (1000000<x.To) then wO A 2 [] else DV (Xg A x.Name { A.es x.Name with Be:=x.To })
def Du (op:Int):Option (List Int):=if op=1 then some [0] else if op=2 then some [1] else if op=3 then some [2] else if op=4 then some [3] else if op=5 then some [2,3] else if op=6 then some [0,1] else if op=11 then some [1,2,3] else none
def PW (p:GPermitPlan) (A:AO) (x:GEvent):AO×List Str×Int :=
 if x.Op=0 then DV A else if x.Op=1 then GY A x else if x.Op=2 then Et p A x else if x.Op=3 then DV (beA A x.Name 3) else if x.Op=4 then Et p A x else
 if x.Op=5 then EP p A x else if x.Op=6 then DV (beA A x.Name 5) else if x.Op=7 then X4 p A x else if x.Op=8 then Ob p A x else if x.Op=9 then Oc A x else
 if x.Op=10 then Oe p A x else Jk A x
def Ls (p:GPermitPlan) (A:AO) (x:GEvent):AO×List Str×Int :=
 match Du x.Op with
 | none=>PW p A x
 | some l=>bif !mg p x.Name then wO A 6 [] else bif !l.contains (stA A x.Name) then wO A 18 [] else PW p A x
def Qj (p:GPermitPlan) (A:AO) (x:GEvent):AO×List Str×Int :=
 bif decide (x.Op<0)||decide (12≤x.Op)||decide (x.At<0)||decide (1000000<x.At) then wO A 2 [] else bif decide (x.At<A.now) then wO A 10 [] else
 let r:=Ls p (iJ p { A with now:=x.At }) x
 bif decide (r.2.2=0) then ({ iJ p r.1 with done:=A.done ++ [x] },[],0) else r
def XV (p:GPermitPlan):AO:=iJ p ⟨0,fun s=>bif mg p s then ⟨0,[],(qH p s).To⟩ else ⟨0,[],0⟩,fun _=>none,[],[]⟩
end Go.KB
