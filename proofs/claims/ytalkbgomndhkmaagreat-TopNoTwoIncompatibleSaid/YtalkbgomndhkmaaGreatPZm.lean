/- Plain laws of chapter 7: what a valid plan is, nearness, exclusion, needs. Plain laws of chapter 7: loops that filter, find and delete. Plain laws of chapter 7: near and needs of the program. Plain laws of chapter 7: what an office does, by names. No condition. -/
import Derived.Test.YtalkbgomndhkmaaGreatPZl
namespace Go.KB
set_option linter.unusedVariables false
def GU (l:List Str) (s:Str):Bool:=l.any (fun x=>decide (s=x))
theorem RV {l:List Str} {s:Str}:GU l s=true↔s ∈ l:=by
 unfold GU;rw [List.any_eq_true]
 constructor
 ·rintro ⟨x,h1,h2⟩;rw [decide_eq_true_eq] at h2;rw [h2];exact h1
 ·intro h;exact ⟨s,h,by simp⟩
theorem yR {p:GPermitPlan} {s:Str}:kH p s=true↔∃ y ∈ p.aB,y.Name=s:=by
 unfold kH;rw [List.any_eq_true];simp [Le]
theorem KG {α:Type} {z:α} {g:α→Bool} {l:List α} (h:l.any g=true):(xR z g l).1 ∈ l∧g (xR z g l).1=true:=by
 unfold xR
 cases h2:l.find? g with
 | none=>rw [List.any_eq_true] at h;obtain ⟨x,hx,hg⟩:=h;exact absurd hg (by simpa using List.find?_eq_none.1 h2 x hx)
 | some y=>exact ⟨List.mem_of_find?_eq_some h2,List.find?_some h2⟩
theorem VN {p:GPermitPlan} {s:Str} (h:zC p s=true):xQ p s ∈ p.bP∧(xQ p s).Name=s:=by
 have:=KG (z:=(⟨[],false,[]⟩:dm)) h
 exact ⟨this.1,of_decide_eq_true this.2⟩
theorem uP {p:GPermitPlan} {s:Str} (h:kH p s=true):qo p s ∈ p.aB∧(qo p s).Name=s:=by
 have:=KG (z:=(⟨[],0,[],0,0,[]⟩:aG)) h
 exact ⟨this.1,of_decide_eq_true this.2⟩
structure EX (p:GPermitPlan):Prop where
 ns:p.bP.length≤30
 ne:p.dn.length≤30
 np:p.aB.length≤20
 gm:1≤p.dN∧p.dN≤10000
 sn:∀ y ∈ p.bP,kL y.Name=true
 sd:∀ i j,i<p.bP.length→j<p.bP.length→p.bP[i]!.Name=p.bP[j]!.Name→i=j
 nx:∀ y ∈ p.bP,∀ n ∈ y.Next,zC p n=true∧n≠y.Name
 xk:∀ e ∈ p.dn,yw e.A=true∧yw e.B=true∧0≤e.Reach∧e.Reach≤2
 pn:∀ y ∈ p.aB,kL y.Name=true
 pd:∀ i j,i<p.aB.length→j<p.aB.length→p.aB[i]!.Name=p.aB[j]!.Name→i=j
 pk:∀ y ∈ p.aB,yw y.Kind=true∧0≤y.From∧y.From<y.To∧y.To≤1000000∧zC p y.Space=true
 lk:∀ y ∈ p.aB,∀ l ∈ y.Locks,kH p l=true∧(qo p l).Kind=5∧y.Kind≠5
theorem Sr {a b:Int} (h:Ew a b=0):a=0∧b=0:=by
 unfold Ew at h
 by_cases h0:a=0
 ·rw [if_pos h0] at h;exact ⟨h0,h⟩
 ·rw [if_neg h0] at h;exact absurd h h0
theorem A7 {α:Type} [Inhabited α] {l:List α} {e:Nat→Int} {y:α} (h:fE e l.length 0=0) (hy:y ∈ l):∃ i,i<l.length∧l[i]! = y∧e i=0:=by
 obtain ⟨i,hi,rfl⟩:=List.getElem_of_mem hy
 exact ⟨i,hi,Dw hi,yB h i (by omega) (by omega)⟩
theorem Sv {nm:Nat→Str} {n:Nat} (h:∀ i,i<n→dup nm i (nm i)=false):∀ i j,i<n→j<n→nm i=nm j→i=j:=by
 have key:∀ i j,i<j→j<n→nm i≠nm j:=fun i j hij hj he=>by
  have:=(NR nm (nm j) j).2 ⟨i,hij,he⟩
  rw [h j hj] at this;cases this
 intro i j hi hj he
 rcases Nat.lt_trichotomy i j with h1 | h1 | h1
 ·exact absurd he (key i j h1 hj)
 ·exact h1
 ·exact absurd he.symm (key j i h1 hi)
theorem eSp0 {p:GPermitPlan} {i:Nat} (h:VO p i=0):kL (GV p i)=true∧dup (GV p) i (GV p i)=false:=by
 unfold VO at h
 split at h
 ·cases h
 ·rename_i h1
  split at h
  ·cases h
  ·rename_i h2;exact ⟨by simpa using h1,by simpa using h2⟩
theorem Zn {p:GPermitPlan} {i:Nat} (h:XL p i=0):kL (Jc p i)=true∧dup (Jc p) i (Jc p i)=false∧yw p.aB[i]!.Kind=true∧0≤p.aB[i]!.From∧p.aB[i]!.From<p.aB[i]!.To∧p.aB[i]!.To≤1000000∧zC p p.aB[i]!.Space=true:=by
 unfold XL at h
 split at h
 ·cases h
 ·rename_i h1
  split at h
  ·cases h
  ·rename_i h2
   split at h
   ·cases h
   ·rename_i h3
    split at h
    ·cases h
    ·rename_i h4
     simp only [not_or] at h3
     refine ⟨by simpa using h1,by simpa using h2,by simpa using h3.1,by omega,by omega,by omega,by simpa using h4⟩
theorem okP {p:GPermitPlan} (h:qf p=0):EX p:=by
 unfold qf at h
 split at h
 ·cases h
 rename_i hb
 split at h
 ·cases h
 rename_i hg
 obtain ⟨h1,h2⟩:=Sr h
 obtain ⟨h1,h3⟩:=Sr h1
 obtain ⟨h4,h5⟩:=Sr h2
 obtain ⟨h5,h6⟩:=Sr h5
 refine ⟨by omega,by omega,by omega,by omega,?_,?_,?_,?_,?_,?_,?_,?_⟩
 ·intro y hy;obtain ⟨i,hi,rfl,he⟩:=A7 h1 hy;exact (eSp0 he).1
 ·exact Sv (nm:=GV p) fun i hi=>(eSp0 (yB h1 i (by omega) (by omega))).2
 ·intro y hy n hn
  obtain ⟨i,hi,rfl,he⟩:=A7 h3 hy
  obtain ⟨j,hj,rfl,he⟩:=A7 he hn
  unfold eNx at he
  split at he
  ·cases he
  ·rename_i a
   split at he
   ·cases he
   ·rename_i b;exact ⟨by simpa using a,b⟩
 ·intro y hy
  obtain ⟨i,hi,rfl,he⟩:=A7 h4 hy
  unfold eEx at he
  split at he
  ·cases he
  ·rename_i a;simp only [not_or] at a;exact ⟨by simpa using a.1,by simpa using a.2.1,by omega,by omega⟩
 ·intro y hy;obtain ⟨i,hi,rfl,he⟩:=A7 h5 hy;exact (Zn he).1
 ·exact Sv (nm:=Jc p) fun i hi=>(Zn (yB h5 i (by omega) (by omega))).2.1
 ·intro y hy;obtain ⟨i,hi,rfl,he⟩:=A7 h5 hy;exact (Zn he).2.2
 ·intro y hy n hn
  obtain ⟨i,hi,rfl,he⟩:=A7 h6 hy
  obtain ⟨j,hj,rfl,he⟩:=A7 he hn
  unfold eLk at he
  split at he
  ·cases he
  ·rename_i a
   split at he
   ·cases he
   ·rename_i b;simp only [not_or] at b;exact ⟨by simpa using a,by simpa using b.1,b.2⟩
theorem EX.sm {p:GPermitPlan} {N:Nat} (hp:EP p):EP p:=hp
theorem EX.FP {p:GPermitPlan} (h:EX p) {x:aG} (hx:x ∈ p.aB):qo p x.Name=x:=by
 have h1:kH p x.Name=true:=yR.2 ⟨x,hx,rfl⟩
 obtain ⟨h2,h3⟩:=uP h1
 obtain ⟨i,hi,he⟩:=List.getElem_of_mem h2
 obtain ⟨j,hj,hf⟩:=List.getElem_of_mem hx
 have:=h.pd i j hi hj (by rw [Dw hi,Dw hj,he,hf,h3])
 subst this
 rw [← he,hf]
def oN (p:GPermitPlan) (a b:Str):Int:=if a=b then 0 else bif GU (xQ p a).Next b||GU (xQ p b).Next a then 1 else 2
theorem QT (p:GPermitPlan) (a b:Str):oN p a b=oN p b a:=by
 unfold oN
 by_cases h:a=b
 ·subst h;rfl
 ·rw [if_neg h,if_neg (fun x=>h x.symm),Bool.or_comm]
def exE (e:bK) (d k m:Int):Bool:=decide (d≤e.Reach)&&((decide (e.A=k)&&decide (e.B=m))||(decide (e.A=m)&&decide (e.B=k)))
theorem VP (e:bK) (d k m:Int):exE e d k m=exE e d m k:=by unfold exE;rw [Bool.or_comm]
def sZ (p:GPermitPlan) (x y:aG):Bool:=bif decide (x.Name=y.Name) then false else p.dn.any (fun e=>exE e (oN p x.Space y.Space) x.Kind y.Kind)
theorem FT (p:GPermitPlan) (x y:aG):sZ p x y=sZ p y x:=by
 unfold sZ
 rw [QT p y.Space x.Space,show decide (y.Name=x.Name)=decide (x.Name=y.Name) from decide_eq_decide.2 ⟨Eq.symm,Eq.symm⟩]
 congr 2
 funext e
 exact VP ..
theorem QR (p:GPermitPlan) (x:aG):sZ p x x=false:=by unfold sZ;simp
def Et (x:aG):Bool:=decide (x.Kind=0)||(decide (x.Kind=1)||decide (x.Kind=2))
def En (p:GPermitPlan) (x:aG):List Str:=(bif Et x&&(xQ p x.Space).dX then [(xQ p x.Space).Name] else []) ++ (bif decide (x.Kind=0) then (p.bP.filter (fun s=>s.dX&&decide (oN p s.Name (xQ p x.Space).Name=1))).map (fun s=>s.Name) else [])
end Go.KB
namespace Go.KB
set_option linter.unusedVariables false
theorem FN {α:Type} {xs ys:List α} (h:xs.length+ys.length≤lim):app xs ys=some (xs ++ ys):=by
 unfold app;rw [Nat.ble_eq_true_of_le h];rfl
theorem H7 {S O:Type} {n N:Nat} {f:S→Option (S ⊕ O)} (g:Nat→S) (r:O) (h:∀ i:Nat,i<n→f (g i)=some (.inl (g (i+1)))) (he:f (g n)=some (.inr r)) (hN:n<N):dB f N (g 0)=some r:=by
 have key:∀ k i,i+k=n→∀ M,k<M→dB f M (g i)=some r:=by
  intro k
  induction k with
  | zero =>
   intro i hi M hM
   obtain ⟨M,rfl⟩:∃ m,M=m+1:=⟨M - 1,by omega⟩
   have:i=n:=by omega
   subst this
   simp only [dB,he]
  | succ k ih =>
   intro i hi M hM
   obtain ⟨M,rfl⟩:∃ m,M=m+1:=⟨M - 1,by omega⟩
   simp only [dB,h i (by omega)]
   exact ih (i+1) (by omega) M (by omega)
 exact key n 0 (by omega) N (by omega)
theorem QU {S O α T:Type} {N:Nat} {f:S→Option (S ⊕ O)} (l:List α) (t0:T) (stp:T→α→T) (mk:T→Int→S) (out:T→O) (hf:∀ (i:Nat) (hi:i<l.length) (t:T),t=(l.take i).foldl stp t0→f (mk t (i:Int))=some (.inl (mk (stp t l[i]) ((i+1:Nat):Int)))) (he:∀ t,f (mk t (l.length:Int))=some (.inr (out t))) (hN:l.length<N):dB f N (mk t0 0)=some (out (l.foldl stp t0)):=by
 refine H7 (n:=l.length) (fun i=>mk ((l.take i).foldl stp t0) (i:Int)) _ (fun i hi=>?_) ?_ hN
 ·rw [hf i hi _ rfl,List.take_succ_eq_append_getElem hi,List.foldl_append];rfl
 ·rw [List.take_length];exact he _
theorem foldl_filter {α β : Type} (g : α → Bool) (h : α → β) : ∀ (l : List α) (a : List β), l.foldl (fun acc x => bif g x then acc ++ [h x] else acc) a = a ++ (l.filter g).map h
  | [],a=>by simp
  | x :: r,a=>by
    simp only [List.foldl_cons,foldl_filter g h r,List.filter_cons]
    cases g x <;> simp
theorem Ua {α β:Type} (g:α→Bool) (h:α→β):∀ (l:List α) (a:List β),(l.foldl (fun acc x=>bif g x then acc ++ [h x] else acc) a).length≤a.length+l.length:=fun l a=>by
 rw [foldl_filter,List.length_append,List.length_map]
 have:=List.length_filter_le g l
 omega
theorem Sz {S O α β:Type} {N:Nat} {f:S→Option (S ⊕ O)} (l:List α) (a:List β) (g:α→Bool) (h:α→β) (mk:List β→Int→S) (out:List β→O) (hf:∀ (i:Nat) (hi:i<l.length) (acc:List β),acc.length≤a.length+l.length→f (mk acc (i:Int))=some (.inl (mk (bif g l[i] then acc ++ [h l[i]] else acc) ((i+1:Nat):Int)))) (he:∀ t,f (mk t (l.length:Int))=some (.inr (out t))) (hN:l.length<N):dB f N (mk a 0)=some (out (a ++ (l.filter g).map h)):=by
 rw [QU (f:=f) l a (fun acc x=>bif g x then acc ++ [h x] else acc) mk out (fun i hi t ht=>?_) he hN,foldl_filter]
 refine hf i hi t ?_
 rw [ht]
 have:=Ua g h (l.take i) a
 rw [List.length_take] at this
 omega
theorem NJ {α:Type} {l:List α} {a b:Nat} (h:a≤b) (hb:b≤l.length):OZ l (a:Int) (b:Int)=some ((l.take b).drop a):=by
 unfold OZ
 rw [dT (by omega),dT (by omega),dT (by omega)];rfl
theorem VQ {N:Nat} {f:(List Str×Int×Int)→Option ((List Str×Int×Int) ⊕ (List Str×Int))} {l:List Str} {g:Str→Bool} (hf:∀ (xs:List Str) (i j:Nat),(hj:j<xs.length)→i≤j→j<1000000→xs[j] ∈ l→f (xs,(i:Int),(j:Int))=bif !g xs[j] then some (.inl (xs.set i xs[j],((i+1:Nat):Int),((j+1:Nat):Int))) else some (.inl (xs,(i:Int),((j+1:Nat):Int)))) (he:∀ (xs:List Str) (i:Int),f (xs,i,(xs.length:Int))=some (.inr (xs,i))) (hl:l.length<1000000) (hN:1000000≤N) {i0:Nat} (h0:i0<l.length) (hi:l.findIdx g=i0) :
    ∃ xs,dB f N (l,(i0:Int),((i0+1:Nat):Int))=some (xs,((l.filter fun s=>!g s).length:Int))∧xs.length=l.length∧xs.take (l.filter fun s=>!g s).length=l.filter fun s=>!g s:=by
  have key:∀ k i j xs,j+k=l.length→i≤j→xs.length=l.length→xs.take i=(l.take j).filter (fun s=>!g s)→xs.drop j=l.drop j→i=((l.take j).filter (fun s=>!g s)).length→∀ M,k<M →
      ∃ ys,dB f M (xs,(i:Int),(j:Int))=some (ys,((l.filter fun s=>!g s).length:Int))∧ys.length=l.length∧ys.take (l.filter fun s=>!g s).length=l.filter fun s=>!g s:=by
    intro k
    induction k with
    | zero =>
      intro i j xs hj hij hx h1 h2 h3 M hM
      obtain ⟨M,rfl⟩:∃ m,M=m+1:=⟨M - 1,by omega⟩
      have:j=xs.length:=by omega
      subst this
      rw [hx,List.take_length] at h1 h3
      refine ⟨xs,?_,hx,by rw [← h3];exact h1⟩
      simp only [dB,he,h3]
    | succ k ih =>
      intro i j xs hj hij hx h1 h2 h3 M hM
      obtain ⟨M,rfl⟩:∃ m,M=m+1:=⟨M - 1,by omega⟩
      have hjx:j<xs.length:=by omega
      have hjl:j<l.length:=by omega
      have hxj:xs[j]=l[j]:=by
        have:=congrArg (fun l=>l[0]?) h2
        simp only [List.getElem?_drop,Nat.add_zero] at this
        rw [List.getElem?_eq_getElem hjx,List.getElem?_eq_getElem hjl] at this
        exact Option.some.inj this
      have hd:xs.drop (j+1)=l.drop (j+1):=by rw [← List.drop_drop,← List.drop_drop,h2]
      simp only [dB,hf xs i j hjx hij (by omega) (by rw [hxj];exact List.getElem_mem hjl)]
      rw [hxj]
      have htk:(l.take (j+1)).filter (fun s=>!g s)=(l.take j).filter (fun s=>!g s) ++ [l[j]].filter (fun s=>!g s):=by
        rw [List.take_succ_eq_append_getElem hjl,List.filter_append]
      cases hg:g l[j] with
      | false =>
        have hone:[l[j]].filter (fun s=>!g s)=[l[j]]:=by simp [hg]
        rw [hone] at htk
        simp only [Bool.not_false,nC]
        refine ih (i+1) (j+1) (xs.set i l[j]) (by omega) (by omega) (by simpa using hx) ?_ ?_ ?_ M (by omega)
        · rw [htk, ← h1, List.take_succ_eq_append_getElem (by simp; omega), List.take_set_of_le (Nat.le_refl _)]
          simp
        · rw [List.drop_set_of_lt (by omega)];exact hd
        · rw [htk,List.length_append,← h3];rfl
      | true =>
        have hone:[l[j]].filter (fun s=>!g s)=[]:=by simp [hg]
        rw [hone,List.append_nil] at htk
        simp only [Bool.not_true,lI]
        exact ih i (j+1) xs (by omega) (by omega) hx (by rw [htk];exact h1) hd (by rw [htk];exact h3) M (by omega)
  have hpre:(l.take i0).filter (fun s=>!g s)=l.take i0:=by
    refine List.filter_eq_self.2 fun a ha=>?_
    obtain ⟨j,hj,rfl⟩:=List.getElem_of_mem ha
    rw [List.length_take] at hj
    have:=List.not_of_lt_findIdx (p:=g) (xs:=l) (i:=j) (by omega)
    rw [List.getElem_take]
    simpa using this
  have hat:g l[i0]=true:=by subst hi;exact List.findIdx_getElem
  refine key (l.length - (i0+1)) i0 (i0+1) l (by omega) (by omega) rfl ?_ rfl ?_ N (by omega)
  · rw [List.take_succ_eq_append_getElem h0,List.filter_append,hpre];simp [hat]
  · rw [List.take_succ_eq_append_getElem h0,List.filter_append,hpre];simp [hat];omega
theorem del_eq {N:Nat} {f:(List Str×Int×Int)→Option ((List Str×Int×Int) ⊕ (List Str×Int))} {l:List Str} {g:Str→Bool} (hf:∀ (xs:List Str) (i j:Nat),(hj:j<xs.length)→i≤j→j<1000000→xs[j] ∈ l→f (xs,(i:Int),(j:Int))=bif !g xs[j] then some (.inl (xs.set i xs[j],((i+1:Nat):Int),((j+1:Nat):Int))) else some (.inl (xs,(i:Int),((j+1:Nat):Int)))) (he:∀ (xs:List Str) (i:Int),f (xs,i,(xs.length:Int))=some (.inr (xs,i))) (hl:l.length<1000000) (hN:1000000≤N) :
    (bif (aV .eql (IL g l) (-1)) then (some l) else ((dB f N (l,IL g l,(IntKind.i64.wrap (IL g l+1)))).bind fun o8=>(OZ o8.1 o8.2 (List.length o8.1:Int)).bind fun v10=>(bif Nat.beq ((Int.toNat o8.2)+(Int.toNat (List.length o8.1:Int) - Int.toNat o8.2)) (List.length o8.1) then some (List.take (Int.toNat o8.2) o8.1 ++ List.replicate (Int.toNat (List.length o8.1:Int) - Int.toNat o8.2) []) else none).bind fun v11=>(OZ v11 0 o8.2).bind fun v12=>some v12))=some (l.filter fun s=>!g s):=by
  rw [qR]
  by_cases h:l.findIdx g<l.length
  · rw [A8 h, dF (by omega), lI, qy (by omega)]
    obtain ⟨xs,h1,h2,h3⟩:=VQ hf he hl hN h rfl
    rw [h1,bS]
    simp only []
    have hk:(l.filter fun s=>!g s).length≤xs.length:=by rw [h2];exact List.length_filter_le _ _
    generalize hkk:(l.filter fun s=>!g s).length=k at h3 hk
    rw [NJ hk (Nat.le_refl _),bS,Int.toNat_natCast,Int.toNat_natCast,show Nat.beq (k+(xs.length - k)) xs.length=true from by rw [Nat.beq_eq];omega,nC,bS]
    have e0:OZ (List.take k xs ++ List.replicate (xs.length - k) []) 0 (k:Int)=some (((List.take k xs ++ List.replicate (xs.length - k) []).take k).drop 0):=NJ (a:=0) (Nat.zero_le _) (by simp;omega)
    rw [e0,bS,List.drop_zero,List.take_append_of_le_length (by simp;omega),List.take_take,Nat.min_self,h3]
  · rw [DC h,dT rfl,nC]
    congr 1
    refine (List.filter_eq_self.2 fun a ha=>?_).symm
    cases hg:g a with
    | false=>rfl
    | true=>exact absurd (List.findIdx_lt_length.2 ⟨a,ha,hg⟩) h
end Go.KB
namespace Go.KB
set_option linter.unusedVariables false
theorem GI {N:Nat} {l:List Str} {s:Str} (hl:l.length<1000000) (hN:1000000≤N):eY N l s=some (GU l s):=by
 unfold eY nO
 have h:((dB (jJ N l s) N 0).bind fun o5=>Sum.elim (fun l7=>some (-1:Int)) (fun r8=>some r8) o5)=some (IL (fun x=>decide (s=x)) l):=by
  refine wz (fun i hi=>?_) ?_ (by omega)
  ·unfold jJ
   rw [bT,dT (by omega),nC,iU hi,bS,qZ,qy (by omega)]
  ·unfold jJ
   rw [bT,dF (by omega),lI]
 rw [h,bS,yC]
 have:=Dz (g:=fun x=>decide (s=x)) (l:=l)
 unfold GU
 cases h2:l.any (fun x=>decide (s=x)) with
 | true=>rw [h2] at this;simp at this;rw [dT (by omega)]
 | false=>rw [h2] at this;simp at this;rw [dF (by omega)]
theorem KF {N:Nat} {l:List Int} {s:Int} (hl:l.length<1000000) (hN:1000000≤N):ny N l s=some (l.contains s):=by
 unfold ny qO
 have h:((dB (lD N l s) N 0).bind fun o5=>Sum.elim (fun l7=>some (-1:Int)) (fun r8=>some r8) o5)=some (IL (fun x=>decide (s=x)) l):=by
  refine wz (fun i hi=>?_) ?_ (by omega)
  ·unfold lD
   rw [bT,dT (by omega),nC,iU hi,bS,qR,qy (by omega)]
  ·unfold lD
   rw [bT,dF (by omega),lI]
 rw [h,bS,yC]
 have:=Dz (g:=fun x=>decide (s=x)) (l:=l)
 have e:l.contains s=l.any (fun x=>decide (s=x)):=by
  rw [Bool.eq_iff_iff,List.contains_iff_mem,List.any_eq_true];simp
 rw [e]
 cases h2:l.any (fun x=>decide (s=x)) with
 | true=>rw [h2] at this;simp at this;rw [dT (by omega)]
 | false=>rw [h2] at this;simp at this;rw [dF (by omega)]
theorem EP.next {p:GPermitPlan} (hp:EP p) (s:Str):(xQ p s).Next.length<1000:=by
 unfold xQ xR
 cases h:p.bP.find? (isS s) with
 | none=>simp
 | some y=>exact hp.n y (List.mem_of_find?_eq_some h)
theorem GN {N:Nat} {p:GPermitPlan} {a b:Str} (hp:EP p) (hN:1000000≤N):qm N p a b=some (oN p a b):=by
  unfold qm oN
  have hs:=hp.s
  have h1:=hp.next a
  have h2:=hp.next b
  rw [wX (by omega) hN,wX (by omega) hN,bS,bS,qZ]
  by_cases h:a=b
  · rw [dT h,if_pos h];rfl
  · rw [dF h, if_neg h, lI, show eY N (xR _ (isS a) p.bP).1.Next b = _ from GI (by exact Nat.lt_trans h1 (by decide)) hN, show eY N (xR _ (isS b) p.bP).1.Next a = _ from GI (by exact Nat.lt_trans h2 (by decide)) hN, bS]
    show ((bif (!GU (xQ p a).Next b) then some (GU (xQ p b).Next a) else some false).bind fun v4=>bif (GU (xQ p a).Next b||v4) then (some (1:Int)) else (some 2))=_
    cases GU (xQ p a).Next b with
    | true=>rfl
    | false=>cases GU (xQ p b).Next a <;> rfl
theorem VI {N:Nat} {p:GPermitPlan} {x:aG} (hp:EP p) (hN:1000000≤N):vK N p x=some (En p x):=by
 unfold vK En
 have hs:=hp.s
 have hlim:lim ≥ 1000000:=by decide
 rw [wX (by omega) hN,bS]
 have hk:(bif (aV .eql x.Kind 0) then (some (aV .eql x.Kind 0)) else (bif (aV .eql x.Kind 1) then (some (aV .eql x.Kind 1)) else (some (aV .eql x.Kind 2))))=some (Et x):=by
  unfold Et
  simp only [qR]
  cases decide (x.Kind=0) <;> cases decide (x.Kind=1) <;> cases decide (x.Kind=2) <;> rfl
 rw [hk,bS]
 have ho:(bif Et x then (bif (xR (⟨[],false,[]⟩:dm) (isS x.Space) p.bP).1.dX then ((app [] [(xR (⟨[],false,[]⟩:dm) (isS x.Space) p.bP).1.Name]).bind fun v6=>some v6) else (some [])) else (some []))=some (bif Et x&&(xQ p x.Space).dX then [(xQ p x.Space).Name] else []):=by
  show (bif Et x then (bif (xQ p x.Space).dX then ((app [] [(xQ p x.Space).Name]).bind fun v6=>some v6) else (some [])) else (some []))=_
  rw [FN (by simp only [List.length_nil,List.length_singleton];omega)]
  cases Et x <;> cases (xQ p x.Space).dX <;> rfl
 rw [ho,bS,qR]
 by_cases h0:x.Kind=0
 ·rw [dT h0,nC,nC]
  rw [Sz (f:=qG N p (xR (⟨[],false,[]⟩:dm) (isS x.Space) p.bP)) p.bP _ (fun s=>s.dX&&decide (oN p s.Name (xQ p x.Space).Name=1)) (fun s=>s.Name) (fun a i=>(a,i)) (fun a=>a) (fun i hi acc hacc=>?_) (fun acc=>?_) (by omega)]
  ·rfl
  ·have hacc':acc.length≤1+p.bP.length:=by
    refine Nat.le_trans hacc (Nat.add_le_add_right ?_ _)
    cases (Et x&&(xQ p x.Space).dX) <;> simp
   unfold qG
   simp only []
   rw [bT,dT (by omega),nC,iU hi,bS,GN hp hN,qy (by omega)]
   show ((bif p.bP[i].dX then some (oN p p.bP[i].Name (xQ p x.Space).Name) else some 0).bind fun v13=>_)=_
   cases p.bP[i].dX with
   | false=>rfl
   | true =>
    rw [nC,bS,Bool.true_and,Bool.true_and,qR]
    cases decide (oN p p.bP[i].Name (xQ p x.Space).Name=1) with
    | false=>rfl
    | true=>rw [nC,FN (by simp only [List.length_singleton];omega)];rfl
  ·unfold qG
   simp only []
   rw [bT,dF (by omega),lI]
 ·rw [dF h0,lI,lI,List.append_nil]
theorem VH {p:GPermitPlan} {x:aG} (hp:EP p):(En p x).length<2000:=by
 have hs:=hp.s
 unfold En
 rw [List.length_append]
 have h1:(bif Et x&&(xQ p x.Space).dX then [(xQ p x.Space).Name] else []).length≤1:=by cases (Et x&&(xQ p x.Space).dX) <;> simp
 have h2:(bif decide (x.Kind=0) then (p.bP.filter (fun s=>s.dX&&decide (oN p s.Name (xQ p x.Space).Name=1))).map (fun s=>s.Name) else []).length≤p.bP.length:=by
  cases decide (x.Kind=0) with
  | false=>exact Nat.zero_le _
  | true=>rw [nC,List.length_map];exact List.length_filter_le _ _
 omega
end Go.KB
namespace Go.KB
set_option linter.unusedVariables false
structure AO where
 now:Int
 es:Str→ah
 ts:Str→Option ai
 pp:List (Str×Str)
 done:List GEvent
def stA (A:AO) (s:Str):Int:=(A.es s).state
def Wu (A:AO) (n:Str) (e:ah):AO:={ A with es:=fun s=>bif decide (s=n) then e else A.es s }
def VF (A:AO) (n:Str) (k:Int):AO:=Wu A n { A.es n with state:=k }
def RZ (p:GPermitPlan) (A:AO) (s:Str):Bool:=bif !(xQ p s).dX then true else match A.ts s with
 | none=>false
 | some t=>decide (A.now - t.at_≤p.dN)&&decide (195≤t.ku)&&decide (t.ku≤235)&&decide (t.KW≤50)
def RY (p:GPermitPlan) (A:AO) (s:Str):Bool:=bif !(xQ p s).dX then true else match A.ts s with
 | none=>false
 | some t=>decide (A.now - t.at_≤p.dN)&&decide (195≤t.ku)&&decide (t.ku≤235)&&decide (t.KW≤50)&&decide (t.KW≤10)
def Fa (p:GPermitPlan) (A:AO) (x:aG) (s:Str):Bool:=bif decide (x.Kind=0) then RY p A s else RZ p A s
def DR (p:GPermitPlan) (A:AO) (x:aG):List Str:=(En p x).filter fun s=>!Fa p A x s
def EY (A:AO) (x:aG):List Str:=x.Locks.filter fun s=>!decide (stA A s=2)
def vz (p:GPermitPlan) (A:AO) (x:aG):Bool:=!(DR p A x).isEmpty || !(EY A x).isEmpty
def wK (now:Int) (e:ah):ah:=bif decide (e.state≤3)&&decide (e.Ap≤now) then { e with state:=6 } else e
def qg (p:GPermitPlan) (A:AO):AO:={ A with es:=fun s=>bif kH p s then wK A.now (A.es s) else A.es s }
def uQ (p:GPermitPlan) (A:AO):AO:={ A with es:=fun s=>bif kH p s&&decide (stA A s=2)&&vz p A (qo p s) then { A.es s with state:=3 } else A.es s }
def eX (p:GPermitPlan) (A:AO):AO:=uQ p (qg p A)
def kD (p:GPermitPlan) (A:AO) (so:aG→Bool):List Str:=(p.aB.filter fun x=>decide (stA A x.Name=2)&&so x).map fun x=>x.Name
def Ak (A:AO) (so:Str→Bool):List Str:=(A.pp.filter fun q=>so q.2).map fun q=>q.1
def Kq (p:GPermitPlan) (A:AO) (x:aG):List bW :=
 (bif decide (A.now<x.From) then [(⟨2,[]⟩:bW)] else []) ++
 (([(⟨18,EY A x⟩:bW),(⟨20,kD p A (fun y=>sZ p y x)⟩:bW),(⟨21,DR p A x⟩:bW)] ++ (bif decide (x.Kind=3) then [(⟨17,Ak A (fun s=>decide (oN p s x.Space≤1))⟩:bW)] else [])).filter fun r=>!r.Names.isEmpty)
def zD (p:GPermitPlan) (A:AO) (s:Str):Bool:=!(kD p A (fun y=>decide (y.Kind=1)&&decide (y.Space=s))).isEmpty
def HY:List (Str×Str)→Str→Str→List (Str×Str)
 | [],n,s=>[(n,s)]
 | q :: r,n,s=>bif decide (q.1<n) then q :: HY r n s else (n,s) :: q :: r
def vT (A:AO) (e:Int) (l:List Str):AO×List Str×Int:=(A,l,e)
def Ce (A:AO):AO×List Str×Int:=(A,[],0)
def GK (A:AO) (x:GEvent):AO×List Str×Int:=bif !kL x.Person then vT A 4 [] else Ce (Wu A x.Name { A.es x.Name with state:=1,Gi:=x.Person })
def Bv (p:GPermitPlan) (A:AO) (x:GEvent):AO×List Str×Int :=
 bif !kL x.Person then vT A 4 [] else bif decide (x.Person=(A.es x.Name).Gi) then vT A 26 [] else
 match Kq p A (qo p x.Name) with
 | r :: _=>vT A r.Err r.Names
 | []=>Ce (VF A x.Name 2)
def ER (p:GPermitPlan) (A:AO) (x:GEvent):AO×List Str×Int :=
 let y:=qo p x.Name
 bif decide (y.Kind=5) && !(kD p A (fun z=>GU z.Locks y.Name)).isEmpty then vT A 20 (kD p A (fun z=>GU z.Locks y.Name)) else
 bif decide (y.Kind=1)&&decide (stA A y.Name=2)&&(xQ p y.Space).dX&&(kD p A (fun z=>decide (z.Kind=1)&&decide (z.Space=y.Space) && !decide (z.Name=y.Name))).isEmpty && !(Ak A (fun s=>decide (s=y.Space))).isEmpty then vT A 21 (Ak A (fun s=>decide (s=y.Space))) else
 Ce (VF A x.Name 4)
def Xn (p:GPermitPlan) (A:AO) (x:GEvent):AO×List Str×Int :=
 bif !zC p x.Space then vT A 6 [] else bif decide (x.vH<0)||decide (1000<x.vH)||decide (x.Ot<0)||decide (1000<x.Ot) then vT A 2 [] else
 Ce { A with ts:=fun s=>bif decide (s=x.Space) then some ⟨A.now,x.vH,x.Ot⟩ else A.ts s }
def Dy (A:AO) (n:Str):Bool:=A.pp.any fun q=>decide (q.1=n)
def NM (p:GPermitPlan) (A:AO) (x:GEvent):AO×List Str×Int :=
 bif !kL x.Person then vT A 4 [] else bif !zC p x.Space then vT A 6 [] else bif Dy A x.Person then vT A 18 [] else
 bif (xQ p x.Space).dX && !zD p A x.Space then vT A 21 [] else
 bif !(kD p A (fun y=>decide (y.Kind=3)&&decide (oN p y.Space x.Space≤1))).isEmpty then vT A 17 (kD p A (fun y=>decide (y.Kind=3)&&decide (oN p y.Space x.Space≤1))) else
 Ce { A with pp:=HY A.pp x.Person x.Space }
def NP (A:AO) (x:GEvent):AO×List Str×Int :=
 bif !kL x.Person then vT A 4 [] else bif !Dy A x.Person then vT A 6 [] else Ce { A with pp:=A.pp.filter fun q=>!decide (q.1=x.Person) }
def NQ (p:GPermitPlan) (A:AO) (x:GEvent):AO×List Str×Int :=
 bif !zC p x.Space then vT A 6 [] else
 Ce { A with es:=fun s=>bif kH p s&&decide (stA A s=2)&&(!decide ((qo p s).Kind=5)&&decide (oN p (qo p s).Space x.Space≤1)) then { A.es s with state:=3 } else A.es s }
def Ja (A:AO) (x:GEvent):AO×List Str×Int :=
 bif !kL x.Person then vT A 4 [] else bif decide (x.To≤(A.es x.Name).Ap)||decide (1000000<x.To) then vT A 2 [] else Ce (Wu A x.Name { A.es x.Name with Ap:=x.To })
def AZ (op:Int):Option (List Int):=if op=1 then some [0] else if op=2 then some [1] else if op=3 then some [2] else if op=4 then some [3] else if op=5 then some [2,3] else if op=6 then some [0,1] else if op=11 then some [1,2,3] else none
def Fb (p:GPermitPlan) (A:AO) (x:GEvent):AO×List Str×Int :=
 if x.Op=0 then Ce A else if x.Op=1 then GK A x else if x.Op=2 then Bv p A x else if x.Op=3 then Ce (VF A x.Name 3) else if x.Op=4 then Bv p A x else
 if x.Op=5 then ER p A x else if x.Op=6 then Ce (VF A x.Name 5) else if x.Op=7 then Xn p A x else if x.Op=8 then NM p A x else if x.Op=9 then NP A x else
 if x.Op=10 then NQ p A x else Ja A x
def Ep (p:GPermitPlan) (A:AO) (x:GEvent):AO×List Str×Int :=
 match AZ x.Op with
 | none=>Fb p A x
 | some l=>bif !kH p x.Name then vT A 6 [] else bif !l.contains (stA A x.Name) then vT A 18 [] else Fb p A x
def wu (p:GPermitPlan) (A:AO) (x:GEvent):AO×List Str×Int :=
 bif decide (x.Op<0)||decide (12≤x.Op)||decide (x.At<0)||decide (1000000<x.At) then vT A 2 [] else bif decide (x.At<A.now) then vT A 10 [] else
 let r:=Ep p (eX p { A with now:=x.At }) x
 bif decide (r.2.2=0) then ({ eX p r.1 with done:=A.done ++ [x] },[],0) else r
def FO (p:GPermitPlan):AO:=eX p ⟨0,fun s=>bif kH p s then ⟨0,[],(qo p s).To⟩ else ⟨0,[],0⟩,fun _=>none,[],[]⟩
end Go.KB
