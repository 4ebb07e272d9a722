/- Plain laws of chapter 7: what a valid plan is, nearness, exclusion, needs. Plain laws of chapter 7: loops that filter, find and delete. Plain laws of chapter 7: near and needs of the program. Plain laws of chapter 7: what an office does, by names. No condition. -/
import Derived.Test.YtochfcfkpachcaaGreatDoorPZl
namespace Go.KB
set_option linter.unusedVariables false
def Me (l:List Str) (s:Str):Bool:=l.any (fun x=>decide (s=x))
theorem jJa {l:List Str} {s:Str}:Me l s=true↔s ∈ l:=by
 unfold Me;rw [List.any_eq_true]
 constructor
 ·rintro ⟨x,h1,h2⟩;rw [decide_eq_true_eq] at h2;rw [h2];exact h1
 ·intro h;exact ⟨s,h,by simp⟩
theorem Y2 {p:GPermitPlan} {s:Str}:yg p s=true↔∃ y ∈ p.dA,y.Name=s:=by
 unfold yg;rw [List.any_eq_true];simp [isS]
theorem BZ {p:GPermitPlan} {s:Str}:lZ p s=true↔∃ y ∈ p.aH,y.Name=s:=by
 unfold lZ;rw [List.any_eq_true];simp [Qa]
theorem PD {α:Type} {z:α} {g:α→Bool} {l:List α} (h:l.any g=true):(AX z g l).1 ∈ l∧g (AX z g l).1=true:=by
 unfold AX
 cases h2:l.find? g with
 | none=>rw [List.any_eq_true] at h;obtain ⟨x,hx,hg⟩:=h;exact absurd hg (by simpa using List.find?_eq_none.1 h2 x hx)
 | some y=>exact ⟨List.mem_of_find?_eq_some h2,List.find?_some h2⟩
theorem Zi {p:GPermitPlan} {s:Str} (h:yg p s=true):zM p s ∈ p.dA∧(zM p s).Name=s:=by
 have:=PD (z:=(⟨[],false,[]⟩:dH)) h
 exact ⟨this.1,of_decide_eq_true this.2⟩
theorem zk {p:GPermitPlan} {s:Str} (h:lZ p s=true):qK p s ∈ p.aH∧(qK p s).Name=s:=by
 have:=PD (z:=(⟨[],0,[],0,0,[]⟩:aP)) h
 exact ⟨this.1,of_decide_eq_true this.2⟩
structure H6 (p:GPermitPlan):Prop where
 ns:p.dA.length≤30
 ne:p.dR.length≤30
 np:p.aH.length≤20
 gm:1≤p.dK∧p.dK≤10000
 sn:∀ y ∈ p.dA,iI y.Name=true
 sd:∀ i j,i<p.dA.length→j<p.dA.length→p.dA[i]!.Name=p.dA[j]!.Name→i=j
 nx:∀ y ∈ p.dA,∀ n ∈ y.Next,yg p n=true∧n≠y.Name
 xk:∀ e ∈ p.dR,Bo e.A=true∧Bo e.B=true∧0≤e.Reach∧e.Reach≤2
 pn:∀ y ∈ p.aH,iI y.Name=true
 pd:∀ i j,i<p.aH.length→j<p.aH.length→p.aH[i]!.Name=p.aH[j]!.Name→i=j
 pk:∀ y ∈ p.aH,Bo y.Kind=true∧0≤y.From∧y.From<y.To∧y.To≤1000000∧yg p y.Space=true
 lk:∀ y ∈ p.aH,∀ l ∈ y.Locks,lZ p l=true∧(qK p l).Kind=5∧y.Kind≠5
theorem WM {a b:Int} (h:Ii a b=0):a=0∧b=0:=by
 unfold Ii at h
 by_cases h0:a=0
 ·rw [if_pos h0] at h;exact ⟨h0,h⟩
 ·rw [if_neg h0] at h;exact absurd h h0
theorem EK {α:Type} [Inhabited α] {l:List α} {e:Nat→Int} {y:α} (h:iT e l.length 0=0) (hy:y ∈ l):∃ i,i<l.length∧l[i]! = y∧e i=0:=by
 obtain ⟨i,hi,rfl⟩:=List.getElem_of_mem hy
 exact ⟨i,hi,Sr hi,EX h i (by omega) (by omega)⟩
theorem WN {nm:Nat→Str} {n:Nat} (h:∀ i,i<n→dup nm i (nm i)=false):∀ i j,i<n→j<n→nm i=nm j→i=j:=by
 have key:∀ i j,i<j→j<n→nm i≠nm j:=fun i j hij hj he=>by
  have:=(Sz nm (nm j) j).2 ⟨i,hij,he⟩
  rw [h j hj] at this;cases this
 intro i j hi hj he
 rcases Nat.lt_trichotomy i j with h1 | h1 | h1
 ·exact absurd he (key i j h1 hj)
 ·exact h1
 ·exact absurd he.symm (key j i h1 hi)
theorem eSp0 {p:GPermitPlan} {i:Nat} (h:Zj p i=0):iI (KJ p i)=true∧dup (KJ p) i (KJ p i)=false:=by
 unfold Zj at h
 split at h
 ·cases h
 ·rename_i h1
  split at h
  ·cases h
  ·rename_i h2;exact ⟨by simpa using h1,by simpa using h2⟩
theorem ePm0 {p:GPermitPlan} {i:Nat} (h:ePm p i=0):iI (NC p i)=true∧dup (NC p) i (NC p i)=false∧Bo p.aH[i]!.Kind=true∧0≤p.aH[i]!.From∧p.aH[i]!.From<p.aH[i]!.To∧p.aH[i]!.To≤1000000∧yg p p.aH[i]!.Space=true:=by
 unfold ePm at h
 split at h
 ·cases h
 ·rename_i h1
  split at h
  ·cases h
  ·rename_i h2
   split at h
   ·cases h
   ·rename_i h3
    split at h
    ·cases h
    ·rename_i h4
     simp only [not_or] at h3
     refine ⟨by simpa using h1,by simpa using h2,by simpa using h3.1,by omega,by omega,by omega,by simpa using h4⟩
theorem okP {p:GPermitPlan} (h:uU p=0):H6 p:=by
 unfold uU at h
 split at h
 ·cases h
 rename_i hb
 split at h
 ·cases h
 rename_i hg
 obtain ⟨h1,h2⟩:=WM h
 obtain ⟨h1,h3⟩:=WM h1
 obtain ⟨h4,h5⟩:=WM h2
 obtain ⟨h5,h6⟩:=WM h5
 refine ⟨by omega,by omega,by omega,by omega,?_,?_,?_,?_,?_,?_,?_,?_⟩
 ·intro y hy;obtain ⟨i,hi,rfl,he⟩:=EK h1 hy;exact (eSp0 he).1
 ·exact WN (nm:=KJ p) fun i hi=>(eSp0 (EX h1 i (by omega) (by omega))).2
 ·intro y hy n hn
  obtain ⟨i,hi,rfl,he⟩:=EK h3 hy
  obtain ⟨j,hj,rfl,he⟩:=EK he hn
  unfold eNx at he
  split at he
  ·cases he
  ·rename_i a
   split at he
   ·cases he
   ·rename_i b;exact ⟨by simpa using a,b⟩
 ·intro y hy
  obtain ⟨i,hi,rfl,he⟩:=EK h4 hy
  unfold eEx at he
  split at he
  ·cases he
  ·rename_i a;simp only [not_or] at a;exact ⟨by simpa using a.1,by simpa using a.2.1,by omega,by omega⟩
 ·intro y hy;obtain ⟨i,hi,rfl,he⟩:=EK h5 hy;exact (ePm0 he).1
 ·exact WN (nm:=NC p) fun i hi=>(ePm0 (EX h5 i (by omega) (by omega))).2.1
 ·intro y hy;obtain ⟨i,hi,rfl,he⟩:=EK h5 hy;exact (ePm0 he).2.2
 ·intro y hy n hn
  obtain ⟨i,hi,rfl,he⟩:=EK h6 hy
  obtain ⟨j,hj,rfl,he⟩:=EK he hn
  unfold eLk at he
  split at he
  ·cases he
  ·rename_i a
   split at he
   ·cases he
   ·rename_i b;simp only [not_or] at b;exact ⟨by simpa using a,by simpa using b.1,b.2⟩
theorem H6.sm {p:GPermitPlan} {N:Nat} (hp:H8 p):H8 p:=hp
theorem H6.JB {p:GPermitPlan} (h:H6 p) {x:aP} (hx:x ∈ p.aH):qK p x.Name=x:=by
 have h1:lZ p x.Name=true:=BZ.2 ⟨x,hx,rfl⟩
 obtain ⟨h2,h3⟩:=zk h1
 obtain ⟨i,hi,he⟩:=List.getElem_of_mem h2
 obtain ⟨j,hj,hf⟩:=List.getElem_of_mem hx
 have:=h.pd i j hi hj (by rw [Sr hi,Sr hj,he,hf,h3])
 subst this
 rw [← he,hf]
def pI (p:GPermitPlan) (a b:Str):Int:=if a=b then 0 else bif Me (zM p a).Next b||Me (zM p b).Next a then 1 else 2
theorem Vy (p:GPermitPlan) (a b:Str):pI p a b=pI p b a:=by
 unfold pI
 by_cases h:a=b
 ·subst h;rfl
 ·rw [if_neg h,if_neg (fun x=>h x.symm),Bool.or_comm]
def exE (e:cZ) (d k m:Int):Bool:=decide (d≤e.Reach)&&((decide (e.A=k)&&decide (e.B=m))||(decide (e.A=m)&&decide (e.B=k)))
theorem Zk (e:cZ) (d k m:Int):exE e d k m=exE e d m k:=by unfold exE;rw [Bool.or_comm]
def yY (p:GPermitPlan) (x y:aP):Bool:=bif decide (x.Name=y.Name) then false else p.dR.any (fun e=>exE e (pI p x.Space y.Space) x.Kind y.Kind)
theorem Pg (p:GPermitPlan) (x y:aP):yY p x y=yY p y x:=by
 unfold yY
 rw [Vy p y.Space x.Space,show decide (y.Name=x.Name)=decide (x.Name=y.Name) from decide_eq_decide.2 ⟨Eq.symm,Eq.symm⟩]
 congr 2
 funext e
 exact Zk ..
def Ig (x:aP):Bool:=decide (x.Kind=0)||(decide (x.Kind=1)||decide (x.Kind=2))
def Ie (p:GPermitPlan) (x:aP):List Str:=(bif Ig x&&(zM p x.Space).fG then [(zM p x.Space).Name] else []) ++ (bif decide (x.Kind=0) then (p.dA.filter (fun s=>s.fG&&decide (pI p s.Name (zM p x.Space).Name=1))).map (fun s=>s.Name) else [])
end Go.KB
namespace Go.KB
set_option linter.unusedVariables false
theorem FQ {α:Type} {xs ys:List α} (h:xs.length+ys.length≤lim):app xs ys=some (xs ++ ys):=by
 unfold app;rw [Nat.ble_eq_true_of_le h];rfl
theorem LJ {S O:Type} {n N:Nat} {f:S→Option (S ⊕ O)} (g:Nat→S) (r:O) (h:∀ i:Nat,i<n→f (g i)=some (.inl (g (i+1)))) (he:f (g n)=some (.inr r)) (hN:n<N):eF f N (g 0)=some r:=by
 have key:∀ k i,i+k=n→∀ M,k<M→eF f M (g i)=some r:=by
  intro k
  induction k with
  | zero =>
   intro i hi M hM
   obtain ⟨M,rfl⟩:∃ m,M=m+1:=⟨M - 1,by omega⟩
   have:i=n:=by omega
   subst this
   simp only [eF,he]
  | succ k ih =>
   intro i hi M hM
   obtain ⟨M,rfl⟩:∃ m,M=m+1:=⟨M - 1,by omega⟩
   simp only [eF,h i (by omega)]
   exact ih (i+1) (by omega) M (by omega)
 exact key n 0 (by omega) N (by omega)
theorem Vz {S O α T:Type} {N:Nat} {f:S→Option (S ⊕ O)} (l:List α) (t0:T) (stp:T→α→T) (mk:T→Int→S) (out:T→O) (hf:∀ (i:Nat) (hi:i<l.length) (t:T),t=(l.take i).foldl stp t0→f (mk t (i:Int))=some (.inl (mk (stp t l[i]) ((i+1:Nat):Int)))) (he:∀ t,f (mk t (l.length:Int))=some (.inr (out t))) (hN:l.length<N):eF f N (mk t0 0)=some (out (l.foldl stp t0)):=by
 refine LJ (n:=l.length) (fun i=>mk ((l.take i).foldl stp t0) (i:Int)) _ (fun i hi=>?_) ?_ hN
 ·rw [hf i hi _ rfl,List.take_succ_eq_append_getElem hi,List.foldl_append];rfl
 ·rw [List.take_length];exact he _
theorem foldl_filter {α β : Type} (g : α → Bool) (h : α → β) : ∀ (l : List α) (a : List β), l.foldl (fun acc x => bif g x then acc ++ [h x] else acc) a = a ++ (l.filter g).map h
  | [],a=>by simp
  | x :: r,a=>by
    simp only [List.foldl_cons,foldl_filter g h r,List.filter_cons]
    cases g x <;> simp
theorem XH {α β:Type} (g:α→Bool) (h:α→β):∀ (l:List α) (a:List β),(l.foldl (fun acc x=>bif g x then acc ++ [h x] else acc) a).length≤a.length+l.length:=fun l a=>by
 rw [foldl_filter,List.length_append,List.length_map]
 have:=List.length_filter_le g l
 omega
theorem Nw {S O α β:Type} {N:Nat} {f:S→Option (S ⊕ O)} (l:List α) (a:List β) (g:α→Bool) (h:α→β) (mk:List β→Int→S) (out:List β→O) (hf:∀ (i:Nat) (hi:i<l.length) (acc:List β),acc.length≤a.length+l.length→f (mk acc (i:Int))=some (.inl (mk (bif g l[i] then acc ++ [h l[i]] else acc) ((i+1:Nat):Int)))) (he:∀ t,f (mk t (l.length:Int))=some (.inr (out t))) (hN:l.length<N):eF f N (mk a 0)=some (out (a ++ (l.filter g).map h)):=by
 rw [Vz (f:=f) l a (fun acc x=>bif g x then acc ++ [h x] else acc) mk out (fun i hi t ht=>?_) he hN,foldl_filter]
 refine hf i hi t ?_
 rw [ht]
 have:=XH g h (l.take i) a
 rw [List.length_take] at this
 omega
theorem Vs {α:Type} {l:List α} {a b:Nat} (h:a≤b) (hb:b≤l.length):UL l (a:Int) (b:Int)=some ((l.take b).drop a):=by
 unfold UL
 rw [dT (by omega),dT (by omega),dT (by omega)];rfl
theorem Zl {N:Nat} {f:(List Str×Int×Int)→Option ((List Str×Int×Int) ⊕ (List Str×Int))} {l:List Str} {g:Str→Bool} (hf:∀ (xs:List Str) (i j:Nat),(hj:j<xs.length)→i≤j→j<1000000→xs[j] ∈ l→f (xs,(i:Int),(j:Int))=bif !g xs[j] then some (.inl (xs.set i xs[j],((i+1:Nat):Int),((j+1:Nat):Int))) else some (.inl (xs,(i:Int),((j+1:Nat):Int)))) (he:∀ (xs:List Str) (i:Int),f (xs,i,(xs.length:Int))=some (.inr (xs,i))) (hl:l.length<1000000) (hN:1000000≤N) {i0:Nat} (h0:i0<l.length) (hi:l.findIdx g=i0) :
    ∃ xs,eF f N (l,(i0:Int),((i0+1:Nat):Int))=some (xs,((l.filter fun s=>!g s).length:Int))∧xs.length=l.length∧xs.take (l.filter fun s=>!g s).length=l.filter fun s=>!g s:=by
  have key:∀ k i j xs,j+k=l.length→i≤j→xs.length=l.length→xs.take i=(l.take j).filter (fun s=>!g s)→xs.drop j=l.drop j→i=((l.take j).filter (fun s=>!g s)).length→∀ M,k<M →
      ∃ ys,eF f M (xs,(i:Int),(j:Int))=some (ys,((l.filter fun s=>!g s).length:Int))∧ys.length=l.length∧ys.take (l.filter fun s=>!g s).length=l.filter fun s=>!g s:=by
    intro k
    induction k with
    | zero =>
      intro i j xs hj hij hx h1 h2 h3 M hM
      obtain ⟨M,rfl⟩:∃ m,M=m+1:=⟨M - 1,by omega⟩
      have:j=xs.length:=by omega
      subst this
      rw [hx,List.take_length] at h1 h3
      refine ⟨xs,?_,hx,by rw [← h3];exact h1⟩
      simp only [eF,he,h3]
    | succ k ih =>
      intro i j xs hj hij hx h1 h2 h3 M hM
      obtain ⟨M,rfl⟩:∃ m,M=m+1:=⟨M - 1,by omega⟩
      have hjx:j<xs.length:=by omega
      have hjl:j<l.length:=by omega
      have hxj:xs[j]=l[j]:=by
        have:=congrArg (fun l=>l[0]?) h2
        simp only [List.getElem?_drop,Nat.add_zero] at this
        rw [List.getElem?_eq_getElem hjx,List.getElem?_eq_getElem hjl] at this
        exact Option.some.inj this
      have hd:xs.drop (j+1)=l.drop (j+1):=by rw [← List.drop_drop,← List.drop_drop,h2]
      simp only [eF,hf xs i j hjx hij (by omega) (by rw [hxj];exact List.getElem_mem hjl)]
      rw [hxj]
      have htk:(l.take (j+1)).filter (fun s=>!g s)=(l.take j).filter (fun s=>!g s) ++ [l[j]].filter (fun s=>!g s):=by
        rw [List.take_succ_eq_append_getElem hjl,List.filter_append]
      cases hg:g l[j] with
      | false =>
        have hone:[l[j]].filter (fun s=>!g s)=[l[j]]:=by simp [hg]
        rw [hone] at htk
        simp only [Bool.not_false,ni]
        refine ih (i+1) (j+1) (xs.set i l[j]) (by omega) (by omega) (by simpa using hx) ?_ ?_ ?_ M (by omega)
        · rw [htk, ← h1, List.take_succ_eq_append_getElem (by simp; omega), List.take_set_of_le (Nat.le_refl _)]
          simp
        · rw [List.drop_set_of_lt (by omega)];exact hd
        · rw [htk,List.length_append,← h3];rfl
      | true =>
        have hone:[l[j]].filter (fun s=>!g s)=[]:=by simp [hg]
        rw [hone,List.append_nil] at htk
        simp only [Bool.not_true,nN]
        exact ih i (j+1) xs (by omega) (by omega) hx (by rw [htk];exact h1) hd (by rw [htk];exact h3) M (by omega)
  have hpre:(l.take i0).filter (fun s=>!g s)=l.take i0:=by
    refine List.filter_eq_self.2 fun a ha=>?_
    obtain ⟨j,hj,rfl⟩:=List.getElem_of_mem ha
    rw [List.length_take] at hj
    have:=List.not_of_lt_findIdx (p:=g) (xs:=l) (i:=j) (by omega)
    rw [List.getElem_take]
    simpa using this
  have hat:g l[i0]=true:=by subst hi;exact List.findIdx_getElem
  refine key (l.length - (i0+1)) i0 (i0+1) l (by omega) (by omega) rfl ?_ rfl ?_ N (by omega)
  · rw [List.take_succ_eq_append_getElem h0,List.filter_append,hpre];simp [hat]
  · rw [List.take_succ_eq_append_getElem h0,List.filter_append,hpre];simp [hat];omega
theorem del_eq {N:Nat} {f:(List Str×Int×Int)→Option ((List Str×Int×Int) ⊕ (List Str×Int))} {l:List Str} {g:Str→Bool} (hf:∀ (xs:List Str) (i j:Nat),(hj:j<xs.length)→i≤j→j<1000000→xs[j] ∈ l→f (xs,(i:Int),(j:Int))=bif !g xs[j] then some (.inl (xs.set i xs[j],((i+1:Nat):Int),((j+1:Nat):Int))) else some (.inl (xs,(i:Int),((j+1:Nat):Int)))) (he:∀ (xs:List Str) (i:Int),f (xs,i,(xs.length:Int))=some (.inr (xs,i))) (hl:l.length<1000000) (hN:1000000≤N) :
    (bif (aS .eql (MV g l) (-1)) then (some l) else ((eF f N (l,MV g l,(IntKind.i64.wrap (MV g l+1)))).bind fun o8=>(UL o8.1 o8.2 (List.length o8.1:Int)).bind fun v10=>(bif Nat.beq ((Int.toNat o8.2)+(Int.toNat (List.length o8.1:Int) - Int.toNat o8.2)) (List.length o8.1) then some (List.take (Int.toNat o8.2) o8.1 ++ List.replicate (Int.toNat (List.length o8.1:Int) - Int.toNat o8.2) []) else none).bind fun v11=>(UL v11 0 o8.2).bind fun v12=>some v12))=some (l.filter fun s=>!g s):=by
  rw [uz]
  by_cases h:l.findIdx g<l.length
  · rw [EL h, dF (by omega), nN, rJ (by omega)]
    obtain ⟨xs,h1,h2,h3⟩:=Zl hf he hl hN h rfl
    rw [h1,bS]
    simp only []
    have hk:(l.filter fun s=>!g s).length≤xs.length:=by rw [h2];exact List.length_filter_le _ _
    generalize hkk:(l.filter fun s=>!g s).length=k at h3 hk
    rw [Vs hk (Nat.le_refl _),bS,Int.toNat_natCast,Int.toNat_natCast,show Nat.beq (k+(xs.length - k)) xs.length=true from by rw [Nat.beq_eq];omega,ni,bS]
    have e0:UL (List.take k xs ++ List.replicate (xs.length - k) []) 0 (k:Int)=some (((List.take k xs ++ List.replicate (xs.length - k) []).take k).drop 0):=Vs (a:=0) (Nat.zero_le _) (by simp;omega)
    rw [e0,bS,List.drop_zero,List.take_append_of_le_length (by simp;omega),List.take_take,Nat.min_self,h3]
  · rw [GL h,dT rfl,ni]
    congr 1
    refine (List.filter_eq_self.2 fun a ha=>?_).symm
    cases hg:g a with
    | false=>rfl
    | true=>exact absurd (List.findIdx_lt_length.2 ⟨a,ha,hg⟩) h
end Go.KB
namespace Go.KB
set_option linter.unusedVariables false
theorem PE {N:Nat} {l:List Str} {s:Str} (hl:l.length<1000000) (hN:1000000≤N):iJ N l s=some (Me l s):=by
 unfold iJ pM
 have h:((eF (kZ N l s) N 0).bind fun o5=>Sum.elim (fun l7=>some (-1:Int)) (fun r8=>some r8) o5)=some (MV (fun x=>decide (s=x)) l):=by
  refine yV (fun i hi=>?_) ?_ (by omega)
  ·unfold kZ
   rw [dw,dT (by omega),ni,jI hi,bS,uj,rJ (by omega)]
  ·unfold kZ
   rw [dw,dF (by omega),nN]
 rw [h,bS,zx]
 have:=GK (g:=fun x=>decide (s=x)) (l:=l)
 unfold Me
 cases h2:l.any (fun x=>decide (s=x)) with
 | true=>rw [h2] at this;simp at this;rw [dT (by omega)]
 | false=>rw [h2] at this;simp at this;rw [dF (by omega)]
theorem Pz {N:Nat} {l:List Int} {s:Int} (hl:l.length<1000000) (hN:1000000≤N):mY N l s=some (l.contains s):=by
 unfold mY tJ
 have h:((eF (mX N l s) N 0).bind fun o5=>Sum.elim (fun l7=>some (-1:Int)) (fun r8=>some r8) o5)=some (MV (fun x=>decide (s=x)) l):=by
  refine yV (fun i hi=>?_) ?_ (by omega)
  ·unfold mX
   rw [dw,dT (by omega),ni,jI hi,bS,uz,rJ (by omega)]
  ·unfold mX
   rw [dw,dF (by omega),nN]
 rw [h,bS,zx]
 have:=GK (g:=fun x=>decide (s=x)) (l:=l)
 have e:l.contains s=l.any (fun x=>decide (s=x)):=by
  rw [Bool.eq_iff_iff,List.contains_iff_mem,List.any_eq_true];simp
 rw [e]
 cases h2:l.any (fun x=>decide (s=x)) with
 | true=>rw [h2] at this;simp at this;rw [dT (by omega)]
 | false=>rw [h2] at this;simp at this;rw [dF (by omega)]
theorem H8.next {p:GPermitPlan} (hp:H8 p) (s:Str):(zM p s).Next.length<1000:=by
 unfold zM AX
 cases h:p.dA.find? (isS s) with
 | none=>simp
 | some y=>exact hp.n y (List.mem_of_find?_eq_some h)
theorem KG {N:Nat} {p:GPermitPlan} {a b:Str} (hp:H8 p) (hN:1000000≤N):qC N p a b=some (pI p a b):=by
  unfold qC pI
  have hs:=hp.s
  have h1:=hp.next a
  have h2:=hp.next b
  rw [yK (by omega) hN,yK (by omega) hN,bS,bS,uj]
  by_cases h:a=b
  · rw [dT h,if_pos h];rfl
  · rw [dF h, if_neg h, nN, show iJ N (AX _ (isS a) p.dA).1.Next b = _ from PE (by exact Nat.lt_trans h1 (by decide)) hN, show iJ N (AX _ (isS b) p.dA).1.Next a = _ from PE (by exact Nat.lt_trans h2 (by decide)) hN, bS]
    show ((bif (!Me (zM p a).Next b) then some (Me (zM p b).Next a) else some false).bind fun v4=>bif (Me (zM p a).Next b||v4) then (some (1:Int)) else (some 2))=_
    cases Me (zM p a).Next b with
    | true=>rfl
    | false=>cases Me (zM p b).Next a <;> rfl
theorem Ze {N:Nat} {p:GPermitPlan} {x:aP} (hp:H8 p) (hN:1000000≤N):yG N p x=some (Ie p x):=by
 unfold yG Ie
 have hs:=hp.s
 have hlim:lim ≥ 1000000:=by decide
 rw [yK (by omega) hN,bS]
 have hk:(bif (aS .eql x.Kind 0) then (some (aS .eql x.Kind 0)) else (bif (aS .eql x.Kind 1) then (some (aS .eql x.Kind 1)) else (some (aS .eql x.Kind 2))))=some (Ig x):=by
  unfold Ig
  simp only [uz]
  cases decide (x.Kind=0) <;> cases decide (x.Kind=1) <;> cases decide (x.Kind=2) <;> rfl
 rw [hk,bS]
 have ho:(bif Ig x then (bif (AX (⟨[],false,[]⟩:dH) (isS x.Space) p.dA).1.fG then ((app [] [(AX (⟨[],false,[]⟩:dH) (isS x.Space) p.dA).1.Name]).bind fun v6=>some v6) else (some [])) else (some []))=some (bif Ig x&&(zM p x.Space).fG then [(zM p x.Space).Name] else []):=by
  show (bif Ig x then (bif (zM p x.Space).fG then ((app [] [(zM p x.Space).Name]).bind fun v6=>some v6) else (some [])) else (some []))=_
  rw [FQ (by simp only [List.length_nil,List.length_singleton];omega)]
  cases Ig x <;> cases (zM p x.Space).fG <;> rfl
 rw [ho,bS,uz]
 by_cases h0:x.Kind=0
 ·rw [dT h0,ni,ni]
  rw [Nw (f:=sG N p (AX (⟨[],false,[]⟩:dH) (isS x.Space) p.dA)) p.dA _ (fun s=>s.fG&&decide (pI p s.Name (zM p x.Space).Name=1)) (fun s=>s.Name) (fun a i=>(a,i)) (fun a=>a) (fun i hi acc hacc=>?_) (fun acc=>?_) (by omega)]
  ·rfl
  ·have hacc':acc.length≤1+p.dA.length:=by
    refine Nat.le_trans hacc (Nat.add_le_add_right ?_ _)
    cases (Ig x&&(zM p x.Space).fG) <;> simp
   unfold sG
   simp only []
   rw [dw,dT (by omega),ni,jI hi,bS,KG hp hN,rJ (by omega)]
   show ((bif p.dA[i].fG then some (pI p p.dA[i].Name (zM p x.Space).Name) else some 0).bind fun v13=>_)=_
   cases p.dA[i].fG with
   | false=>rfl
   | true =>
    rw [ni,bS,Bool.true_and,Bool.true_and,uz]
    cases decide (pI p p.dA[i].Name (zM p x.Space).Name=1) with
    | false=>rfl
    | true=>rw [ni,FQ (by simp only [List.length_singleton];omega)];rfl
  ·unfold sG
   simp only []
   rw [dw,dF (by omega),nN]
 ·rw [dF h0,nN,nN,List.append_nil]
theorem Ug {p:GPermitPlan} {x:aP} (hp:H8 p):(Ie p x).length<2000:=by
 have hs:=hp.s
 unfold Ie
 rw [List.length_append]
 have h1:(bif Ig x&&(zM p x.Space).fG then [(zM p x.Space).Name] else []).length≤1:=by cases (Ig x&&(zM p x.Space).fG) <;> simp
 have h2:(bif decide (x.Kind=0) then (p.dA.filter (fun s=>s.fG&&decide (pI p s.Name (zM p x.Space).Name=1))).map (fun s=>s.Name) else []).length≤p.dA.length:=by
  cases decide (x.Kind=0) with
  | false=>exact Nat.zero_le _
  | true=>rw [ni,List.length_map];exact List.length_filter_le _ _
 omega
end Go.KB
namespace Go.KB
set_option linter.unusedVariables false
structure AO where
 now:Int
 es:Str→ah
 ts:Str→Option ai
 pp:List (Str×Str)
 done:List GEvent
def stA (A:AO) (s:Str):Int:=(A.es s).state
def ZI (A:AO) (n:Str) (e:ah):AO:={ A with es:=fun s=>bif decide (s=n) then e else A.es s }
def beA (A:AO) (n:Str) (k:Int):AO:=ZI A n { A.es n with state:=k }
def WG (p:GPermitPlan) (A:AO) (s:Str):Bool:=bif !(zM p s).fG then true else match A.ts s with
 | none=>false
 | some t=>decide (A.now - t.at_≤p.dK)&&decide (195≤t.jk)&&decide (t.jk≤235)&&decide (t.Qk≤50)
def WE (p:GPermitPlan) (A:AO) (s:Str):Bool:=bif !(zM p s).fG then true else match A.ts s with
 | none=>false
 | some t=>decide (A.now - t.at_≤p.dK)&&decide (195≤t.jk)&&decide (t.jk≤235)&&decide (t.Qk≤50)&&decide (t.Qk≤10)
def KD (p:GPermitPlan) (A:AO) (x:aP) (s:Str):Bool:=bif decide (x.Kind=0) then WE p A s else WG p A s
def Aq (p:GPermitPlan) (A:AO) (x:aP):List Str:=(Ie p x).filter fun s=>!KD p A x s
def JC (A:AO) (x:aP):List Str:=x.Locks.filter fun s=>!decide (stA A s=2)
def yU (p:GPermitPlan) (A:AO) (x:aP):Bool:=!(Aq p A x).isEmpty || !(JC A x).isEmpty
def yM (now:Int) (e:ah):ah:=bif decide (e.state≤3)&&decide (e.wo≤now) then { e with state:=6 } else e
def vI (p:GPermitPlan) (A:AO):AO:={ A with es:=fun s=>bif lZ p s then yM A.now (A.es s) else A.es s }
def zD (p:GPermitPlan) (A:AO):AO:={ A with es:=fun s=>bif lZ p s&&decide (stA A s=2)&&yU p A (qK p s) then { A.es s with state:=3 } else A.es s }
def ig (p:GPermitPlan) (A:AO):AO:=zD p (vI p A)
def nC (p:GPermitPlan) (A:AO) (so:aP→Bool):List Str:=(p.aH.filter fun x=>decide (stA A x.Name=2)&&so x).map fun x=>x.Name
def yJ (A:AO) (so:Str→Bool):List Str:=(A.pp.filter fun q=>so q.2).map fun q=>q.1
def Ew (p:GPermitPlan) (A:AO) (x:aP):List bg :=
 (bif decide (A.now<x.From) then [(⟨2,[]⟩:bg)] else []) ++
 (([(⟨18,JC A x⟩:bg),(⟨20,nC p A (fun y=>yY p y x)⟩:bg),(⟨21,Aq p A x⟩:bg)] ++ (bif decide (x.Kind=3) then [(⟨17,yJ A (fun s=>decide (pI p s x.Space≤1))⟩:bg)] else [])).filter fun r=>!r.Names.isEmpty)
def vH (p:GPermitPlan) (A:AO) (s:Str):Bool:=!(nC p A (fun y=>decide (y.Kind=1)&&decide (y.Space=s))).isEmpty
def LG:List (Str×Str)→Str→Str→List (Str×Str)
 | [],n,s=>[(n,s)]
 | q :: r,n,s=>bif decide (q.1<n) then q :: LG r n s else (n,s) :: q :: r
def zl (A:AO) (e:Int) (l:List Str):AO×List Str×Int:=(A,l,e)
def Gz (A:AO):AO×List Str×Int:=(A,[],0)
def vG (A:AO) (x:GEvent):AO×List Str×Int:=bif !iI x.Person then zl A 4 [] else Gz (ZI A x.Name { A.es x.Name with state:=1,IU:=x.Person })
def xR (p:GPermitPlan) (A:AO) (x:GEvent):AO×List Str×Int :=
 bif !iI x.Person then zl A 4 [] else bif decide (x.Person=(A.es x.Name).IU) then zl A 26 [] else
 match Ew p A (qK p x.Name) with
 | r :: _=>zl A r.Err r.Names
 | []=>Gz (beA A x.Name 2)
def x9 (p:GPermitPlan) (A:AO) (x:GEvent):AO×List Str×Int :=
 let y:=qK p x.Name
 bif decide (y.Kind=5) && !(nC p A (fun z=>Me z.Locks y.Name)).isEmpty then zl A 20 (nC p A (fun z=>Me z.Locks y.Name)) else
 bif decide (y.Kind=1)&&decide (stA A y.Name=2)&&(zM p y.Space).fG&&(nC p A (fun z=>decide (z.Kind=1)&&decide (z.Space=y.Space) && !decide (z.Name=y.Name))).isEmpty && !(yJ A (fun s=>decide (s=y.Space))).isEmpty then zl A 21 (yJ A (fun s=>decide (s=y.Space))) else
 Gz (beA A x.Name 4)
def Kw (p:GPermitPlan) (A:AO) (x:GEvent):AO×List Str×Int :=
 bif !yg p x.Space then zl A 6 [] else bif decide (x.rU<0)||decide (1000<x.rU)||decide (x.Mc<0)||decide (1000<x.Mc) then zl A 2 [] else
 Gz { A with ts:=fun s=>bif decide (s=x.Space) then some ⟨A.now,x.rU,x.Mc⟩ else A.ts s }
def xg (A:AO) (n:Str):Bool:=A.pp.any fun q=>decide (q.1=n)
def Ak (p:GPermitPlan) (A:AO) (x:GEvent):AO×List Str×Int :=
 bif !iI x.Person then zl A 4 [] else bif !yg p x.Space then zl A 6 [] else bif xg A x.Person then zl A 18 [] else
 bif (zM p x.Space).fG && !vH p A x.Space then zl A 21 [] else
 bif !(nC p A (fun y=>decide (y.Kind=3)&&decide (pI p y.Space x.Space≤1))).isEmpty then zl A 17 (nC p A (fun y=>decide (y.Kind=3)&&decide (pI p y.Space x.Space≤1))) else
 Gz { A with pp:=LG A.pp x.Person x.Space }
def Am (A:AO) (x:GEvent):AO×List Str×Int :=
 bif !iI x.Person then zl A 4 [] else bif !xg A x.Person then zl A 6 [] else Gz { A with pp:=A.pp.filter fun q=>!decide (q.1=x.Person) }
def Ap (p:GPermitPlan) (A:AO) (x:GEvent):AO×List Str×Int :=
 bif !yg p x.Space then zl A 6 [] else
 Gz { A with es:=fun s=>bif lZ p s&&decide (stA A s=2)&&(!decide ((qK p s).Kind=5)&&decide (pI p (qK p s).Space x.Space≤1)) then { A.es s with state:=3 } else A.es s }
def xZ (A:AO) (x:GEvent):AO×List Str×Int :=
 bif !iI x.Person then zl A 4 [] else bif decide (x.To≤(A.es x.Name).wo)||decide (1000000<x.To) then zl A 2 [] else Gz (ZI A x.Name { A.es x.Name with wo:=x.To })
def Aj (op:Int):Option (List Int):=if op=1 then some [0] else if op=2 then some [1] else if op=3 then some [2] else if op=4 then some [3] else if op=5 then some [2,3] else if op=6 then some [0,1] else if op=11 then some [1,2,3] else none
def FT (p:GPermitPlan) (A:AO) (x:GEvent):AO×List Str×Int :=
 if x.Op=0 then Gz A else if x.Op=1 then vG A x else if x.Op=2 then xR p A x else if x.Op=3 then Gz (beA A x.Name 3) else if x.Op=4 then xR p A x else
 if x.Op=5 then x9 p A x else if x.Op=6 then Gz (beA A x.Name 5) else if x.Op=7 then Kw p A x else if x.Op=8 then Ak p A x else if x.Op=9 then Am A x else
 if x.Op=10 then Ap p A x else xZ A x
def yI (p:GPermitPlan) (A:AO) (x:GEvent):AO×List Str×Int :=
 match Aj x.Op with
 | none=>FT p A x
 | some l=>bif !lZ p x.Name then zl A 6 [] else bif !l.contains (stA A x.Name) then zl A 18 [] else FT p A x
def zL (p:GPermitPlan) (A:AO) (x:GEvent):AO×List Str×Int :=
 bif decide (x.Op<0)||decide (12≤x.Op)||decide (x.At<0)||decide (1000000<x.At) then zl A 2 [] else bif decide (x.At<A.now) then zl A 10 [] else
 let r:=yI p (ig p { A with now:=x.At }) x
 bif decide (r.2.2=0) then ({ ig p r.1 with done:=A.done ++ [x] },[],0) else r
def Eu (p:GPermitPlan):AO:=ig p ⟨0,fun s=>bif lZ p s then ⟨0,[],(qK p s).To⟩ else ⟨0,[],0⟩,fun _=>none,[],[]⟩
end Go.KB
