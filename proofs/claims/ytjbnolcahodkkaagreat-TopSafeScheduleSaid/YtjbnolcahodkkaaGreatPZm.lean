/- Plain laws of chapter 7: what a valid plan is, nearness, exclusion, needs. Plain laws of chapter 7: loops that filter, find and delete. Plain laws of chapter 7: near and needs of the program. Plain laws of chapter 7: what an office does, by names. No condition. -/
import Derived.Test.YtjbnolcahodkkaaGreatPZl
namespace Go.KB
set_option linter.unusedVariables false
def BV (l:List Str) (s:Str):Bool:=l.any (fun x=>decide (s=x))
theorem QY {l:List Str} {s:Str}:BV l s=true↔s ∈ l:=by
 unfold BV;rw [List.any_eq_true]
 constructor
 ·rintro ⟨x,h1,h2⟩;rw [decide_eq_true_eq] at h2;rw [h2];exact h1
 ·intro h;exact ⟨s,h,by simp⟩
theorem jZk {p:ax} {s:Str}:DX p s=true↔∃ y ∈ p.bP,y.Name=s:=by
 unfold DX;rw [List.any_eq_true];simp [isS]
theorem DU {p:ax} {s:Str}:pF p s=true↔∃ y ∈ p.aO,y.Name=s:=by
 unfold pF;rw [List.any_eq_true];simp [isP]
theorem Tm {α:Type} {z:α} {g:α→Bool} {l:List α} (h:l.any g=true):(D6 z g l).1 ∈ l∧g (D6 z g l).1=true:=by
 unfold D6
 cases h2:l.find? g with
 | none=>rw [List.any_eq_true] at h;obtain ⟨x,hx,hg⟩:=h;exact absurd hg (by simpa using List.find?_eq_none.1 h2 x hx)
 | some y=>exact ⟨List.mem_of_find?_eq_some h2,List.find?_some h2⟩
theorem SK {p:ax} {s:Str} (h:DX p s=true):Dj p s ∈ p.bP∧(Dj p s).Name=s:=by
 have:=Tm (z:=(⟨[],false,[]⟩:dK)) h
 exact ⟨this.1,of_decide_eq_true this.2⟩
theorem CB {p:ax} {s:Str} (h:pF p s=true):xK p s ∈ p.aO∧(xK p s).Name=s:=by
 have:=Tm (z:=(⟨[],0,[],0,0,[]⟩:aQ)) h
 exact ⟨this.1,of_decide_eq_true this.2⟩
structure QG (p:ax):Prop where
 ns:p.bP.length≤30
 ne:p.aW.length≤30
 np:p.aO.length≤20
 gm:1≤p.gY∧p.gY≤10000
 sn:∀ y ∈ p.bP,lD y.Name=true
 sd:∀ i j,i<p.bP.length→j<p.bP.length→p.bP[i]!.Name=p.bP[j]!.Name→i=j
 nx:∀ y ∈ p.bP,∀ n ∈ y.Next,DX p n=true∧n≠y.Name
 xk:∀ e ∈ p.aW,Ei e.A=true∧Ei e.B=true∧0≤e.Reach∧e.Reach≤2
 pn:∀ y ∈ p.aO,lD y.Name=true
 pd:∀ i j,i<p.aO.length→j<p.aO.length→p.aO[i]!.Name=p.aO[j]!.Name→i=j
 pk:∀ y ∈ p.aO,Ei y.Kind=true∧0≤y.From∧y.From<y.To∧y.To≤1000000∧DX p y.Space=true
 lk:∀ y ∈ p.aO,∀ l ∈ y.Locks,pF p l=true∧(xK p l).Kind=5∧y.Kind≠5
theorem ZW {a b:Int} (h:PU a b=0):a=0∧b=0:=by
 unfold PU at h
 by_cases h0:a=0
 ·rw [if_pos h0] at h;exact ⟨h0,h⟩
 ·rw [if_neg h0] at h;exact absurd h h0
theorem Ic {α:Type} [Inhabited α] {l:List α} {e:Nat→Int} {y:α} (h:jb e l.length 0=0) (hy:y ∈ l):∃ i,i<l.length∧l[i]! = y∧e i=0:=by
 obtain ⟨i,hi,rfl⟩:=List.getElem_of_mem hy
 exact ⟨i,hi,uX hi,Em h i (by omega) (by omega)⟩
theorem ZX {nm:Nat→Str} {n:Nat} (h:∀ i,i<n→dup nm i (nm i)=false):∀ i j,i<n→j<n→nm i=nm j→i=j:=by
 have key:∀ i j,i<j→j<n→nm i≠nm j:=fun i j hij hj he=>by
  have:=(OI nm (nm j) j).2 ⟨i,hij,he⟩
  rw [h j hj] at this;cases this
 intro i j hi hj he
 rcases Nat.lt_trichotomy i j with h1 | h1 | h1
 ·exact absurd he (key i j h1 hj)
 ·exact h1
 ·exact absurd he.symm (key j i h1 hi)
theorem eSp0 {p:ax} {i:Nat} (h:eSp p i=0):lD (TA p i)=true∧dup (TA p) i (TA p i)=false:=by
 unfold eSp at h
 split at h
 ·cases h
 ·rename_i h1
  split at h
  ·cases h
  ·rename_i h2;exact ⟨by simpa using h1,by simpa using h2⟩
theorem ePm0 {p:ax} {i:Nat} (h:ePm p i=0):lD (VA p i)=true∧dup (VA p) i (VA p i)=false∧Ei p.aO[i]!.Kind=true∧0≤p.aO[i]!.From∧p.aO[i]!.From<p.aO[i]!.To∧p.aO[i]!.To≤1000000∧DX p p.aO[i]!.Space=true:=by
 unfold ePm at h
 split at h
 ·cases h
 ·rename_i h1
  split at h
  ·cases h
  ·rename_i h2
   split at h
   ·cases h
   ·rename_i h3
    split at h
    ·cases h
    ·rename_i h4
     simp only [not_or] at h3
     refine ⟨by simpa using h1,by simpa using h2,by simpa using h3.1,by omega,by omega,by omega,by simpa using h4⟩
theorem okP {p:ax} (h:vP p=0):QG p:=by
 unfold vP at h
 split at h
 ·cases h
 rename_i hb
 split at h
 ·cases h
 rename_i hg
 obtain ⟨h1,h2⟩:=ZW h
 obtain ⟨h1,h3⟩:=ZW h1
 obtain ⟨h4,h5⟩:=ZW h2
 obtain ⟨h5,h6⟩:=ZW h5
 refine ⟨by omega,by omega,by omega,by omega,?_,?_,?_,?_,?_,?_,?_,?_⟩
 ·intro y hy;obtain ⟨i,hi,rfl,he⟩:=Ic h1 hy;exact (eSp0 he).1
 ·exact ZX (nm:=TA p) fun i hi=>(eSp0 (Em h1 i (by omega) (by omega))).2
 ·intro y hy n hn
  obtain ⟨i,hi,rfl,he⟩:=Ic h3 hy
  obtain ⟨j,hj,rfl,he⟩:=Ic he hn
  unfold eNx at he
  split at he
  ·cases he
  ·rename_i a
   split at he
   ·cases he
   ·rename_i b;exact ⟨by simpa using a,b⟩
 ·intro y hy
  obtain ⟨i,hi,rfl,he⟩:=Ic h4 hy
  unfold eEx at he
  split at he
  ·cases he
  ·rename_i a;simp only [not_or] at a;exact ⟨by simpa using a.1,by simpa using a.2.1,by omega,by omega⟩
 ·intro y hy;obtain ⟨i,hi,rfl,he⟩:=Ic h5 hy;exact (ePm0 he).1
 ·exact ZX (nm:=VA p) fun i hi=>(ePm0 (Em h5 i (by omega) (by omega))).2.1
 ·intro y hy;obtain ⟨i,hi,rfl,he⟩:=Ic h5 hy;exact (ePm0 he).2.2
 ·intro y hy n hn
  obtain ⟨i,hi,rfl,he⟩:=Ic h6 hy
  obtain ⟨j,hj,rfl,he⟩:=Ic he hn
  unfold eLk at he
  split at he
  ·cases he
  ·rename_i a
   split at he
   ·cases he
   ·rename_i b;simp only [not_or] at b;exact ⟨by simpa using a,by simpa using b.1,b.2⟩
theorem QG.sm {p:ax} {N:Nat} (hp:NV p):NV p:=hp
theorem QG.NY {p:ax} (h:QG p) {x:aQ} (hx:x ∈ p.aO):xK p x.Name=x:=by
 have h1:pF p x.Name=true:=DU.2 ⟨x,hx,rfl⟩
 obtain ⟨h2,h3⟩:=CB h1
 obtain ⟨i,hi,he⟩:=List.getElem_of_mem h2
 obtain ⟨j,hj,hf⟩:=List.getElem_of_mem hx
 have:=h.pd i j hi hj (by rw [uX hi,uX hj,he,hf,h3])
 subst this
 rw [← he,hf]
def rQ (p:ax) (a b:Str):Int:=if a=b then 0 else bif BV (Dj p a).Next b||BV (Dj p b).Next a then 1 else 2
theorem Zf (p:ax) (a b:Str):rQ p a b=rQ p b a:=by
 unfold rQ
 by_cases h:a=b
 ·subst h;rfl
 ·rw [if_neg h,if_neg (fun x=>h x.symm),Bool.or_comm]
def exE (e:dH) (d k m:Int):Bool:=decide (d≤e.Reach)&&((decide (e.A=k)&&decide (e.B=m))||(decide (e.A=m)&&decide (e.B=k)))
theorem jVk (e:dH) (d k m:Int):exE e d k m=exE e d m k:=by unfold exE;rw [Bool.or_comm]
def xN (p:ax) (x y:aQ):Bool:=bif decide (x.Name=y.Name) then false else p.aW.any (fun e=>exE e (rQ p x.Space y.Space) x.Kind y.Kind)
theorem N7 (p:ax) (x y:aQ):xN p x y=xN p y x:=by
 unfold xN
 rw [Zf p y.Space x.Space,show decide (y.Name=x.Name)=decide (x.Name=y.Name) from decide_eq_decide.2 ⟨Eq.symm,Eq.symm⟩]
 congr 2
 funext e
 exact jVk ..
theorem Zg (p:ax) (x:aQ):xN p x x=false:=by unfold xN;simp
def LX (x:aQ):Bool:=decide (x.Kind=0)||(decide (x.Kind=1)||decide (x.Kind=2))
def Kr (p:ax) (x:aQ):List Str:=(bif LX x&&(Dj p x.Space).fU then [(Dj p x.Space).Name] else []) ++ (bif decide (x.Kind=0) then (p.bP.filter (fun s=>s.fU&&decide (rQ p s.Name (Dj p x.Space).Name=1))).map (fun s=>s.Name) else [])
end Go.KB
namespace Go.KB
set_option linter.unusedVariables false
theorem DW {α:Type} {xs ys:List α} (h:xs.length+ys.length≤lim):app xs ys=some (xs ++ ys):=by
 unfold app;rw [Nat.ble_eq_true_of_le h];rfl
theorem Eh {S O:Type} {n N:Nat} {f:S→Option (S ⊕ O)} (g:Nat→S) (r:O) (h:∀ i:Nat,i<n→f (g i)=some (.inl (g (i+1)))) (he:f (g n)=some (.inr r)) (hN:n<N):dh f N (g 0)=some r:=by
 have key:∀ k i,i+k=n→∀ M,k<M→dh f M (g i)=some r:=by
  intro k
  induction k with
  | zero =>
   intro i hi M hM
   obtain ⟨M,rfl⟩:∃ m,M=m+1:=⟨M - 1,by omega⟩
   have:i=n:=by omega
   subst this
   simp only [dh,he]
  | succ k ih =>
   intro i hi M hM
   obtain ⟨M,rfl⟩:∃ m,M=m+1:=⟨M - 1,by omega⟩
   simp only [dh,h i (by omega)]
   exact ih (i+1) (by omega) M (by omega)
 exact key n 0 (by omega) N (by omega)
theorem Zh {S O α T:Type} {N:Nat} {f:S→Option (S ⊕ O)} (l:List α) (t0:T) (stp:T→α→T) (mk:T→Int→S) (out:T→O) (hf:∀ (i:Nat) (hi:i<l.length) (t:T),t=(l.take i).foldl stp t0→f (mk t (i:Int))=some (.inl (mk (stp t l[i]) ((i+1:Nat):Int)))) (he:∀ t,f (mk t (l.length:Int))=some (.inr (out t))) (hN:l.length<N):dh f N (mk t0 0)=some (out (l.foldl stp t0)):=by
 refine Eh (n:=l.length) (fun i=>mk ((l.take i).foldl stp t0) (i:Int)) _ (fun i hi=>?_) ?_ hN
 ·rw [hf i hi _ rfl,List.take_succ_eq_append_getElem hi,List.foldl_append];rfl
 ·rw [List.take_length];exact he _
theorem foldl_filter {α β : Type} (g : α → Bool) (h : α → β) : ∀ (l : List α) (a : List β), l.foldl (fun acc x => bif g x then acc ++ [h x] else acc) a = a ++ (l.filter g).map h
  | [],a=>by simp
  | x :: r,a=>by
    simp only [List.foldl_cons,foldl_filter g h r,List.filter_cons]
    cases g x <;> simp
theorem jQk {α β:Type} (g:α→Bool) (h:α→β):∀ (l:List α) (a:List β),(l.foldl (fun acc x=>bif g x then acc ++ [h x] else acc) a).length≤a.length+l.length:=fun l a=>by
 rw [foldl_filter,List.length_append,List.length_map]
 have:=List.length_filter_le g l
 omega
theorem Vx {S O α β:Type} {N:Nat} {f:S→Option (S ⊕ O)} (l:List α) (a:List β) (g:α→Bool) (h:α→β) (mk:List β→Int→S) (out:List β→O) (hf:∀ (i:Nat) (hi:i<l.length) (acc:List β),acc.length≤a.length+l.length→f (mk acc (i:Int))=some (.inl (mk (bif g l[i] then acc ++ [h l[i]] else acc) ((i+1:Nat):Int)))) (he:∀ t,f (mk t (l.length:Int))=some (.inr (out t))) (hN:l.length<N):dh f N (mk a 0)=some (out (a ++ (l.filter g).map h)):=by
 rw [Zh (f:=f) l a (fun acc x=>bif g x then acc ++ [h x] else acc) mk out (fun i hi t ht=>?_) he hN,foldl_filter]
 refine hf i hi t ?_
 rw [ht]
 have:=jQk g h (l.take i) a
 rw [List.length_take] at this
 omega
theorem PL {α:Type} {l:List α} {a b:Nat} (h:a≤b) (hb:b≤l.length):TL l (a:Int) (b:Int)=some ((l.take b).drop a):=by
 unfold TL
 rw [dT (by omega),dT (by omega),dT (by omega)];rfl
theorem jVw {N:Nat} {f:(List Str×Int×Int)→Option ((List Str×Int×Int) ⊕ (List Str×Int))} {l:List Str} {g:Str→Bool} (hf:∀ (xs:List Str) (i j:Nat),(hj:j<xs.length)→i≤j→j<1000000→xs[j] ∈ l→f (xs,(i:Int),(j:Int))=bif !g xs[j] then some (.inl (xs.set i xs[j],((i+1:Nat):Int),((j+1:Nat):Int))) else some (.inl (xs,(i:Int),((j+1:Nat):Int)))) (he:∀ (xs:List Str) (i:Int),f (xs,i,(xs.length:Int))=some (.inr (xs,i))) (hl:l.length<1000000) (hN:1000000≤N) {i0:Nat} (h0:i0<l.length) (hi:l.findIdx g=i0) :
    ∃ xs,dh f N (l,(i0:Int),((i0+1:Nat):Int))=some (xs,((l.filter fun s=>!g s).length:Int))∧xs.length=l.length∧xs.take (l.filter fun s=>!g s).length=l.filter fun s=>!g s:=by
  have key:∀ k i j xs,j+k=l.length→i≤j→xs.length=l.length→xs.take i=(l.take j).filter (fun s=>!g s)→xs.drop j=l.drop j→i=((l.take j).filter (fun s=>!g s)).length→∀ M,k<M →
      ∃ ys,dh f M (xs,(i:Int),(j:Int))=some (ys,((l.filter fun s=>!g s).length:Int))∧ys.length=l.length∧ys.take (l.filter fun s=>!g s).length=l.filter fun s=>!g s:=by
    intro k
    induction k with
    | zero =>
      intro i j xs hj hij hx h1 h2 h3 M hM
      obtain ⟨M,rfl⟩:∃ m,M=m+1:=⟨M - 1,by omega⟩
      have:j=xs.length:=by omega
      subst this
      rw [hx,List.take_length] at h1 h3
      refine ⟨xs,?_,hx,by rw [← h3];exact h1⟩
      simp only [dh,he,h3]
    | succ k ih =>
      intro i j xs hj hij hx h1 h2 h3 M hM
      obtain ⟨M,rfl⟩:∃ m,M=m+1:=⟨M - 1,by omega⟩
      have hjx:j<xs.length:=by omega
      have hjl:j<l.length:=by omega
      have hxj:xs[j]=l[j]:=by
        have:=congrArg (fun l=>l[0]?) h2
        simp only [List.getElem?_drop,Nat.add_zero] at this
        rw [List.getElem?_eq_getElem hjx,List.getElem?_eq_getElem hjl] at this
        exact Option.some.inj this
      have hd:xs.drop (j+1)=l.drop (j+1):=by rw [← List.drop_drop,← List.drop_drop,h2]
      simp only [dh,hf xs i j hjx hij (by omega) (by rw [hxj];exact List.getElem_mem hjl)]
      rw [hxj]
      have htk:(l.take (j+1)).filter (fun s=>!g s)=(l.take j).filter (fun s=>!g s) ++ [l[j]].filter (fun s=>!g s):=by
        rw [List.take_succ_eq_append_getElem hjl,List.filter_append]
      cases hg:g l[j] with
      | false =>
        have hone:[l[j]].filter (fun s=>!g s)=[l[j]]:=by simp [hg]
        rw [hone] at htk
        simp only [Bool.not_false,kS]
        refine ih (i+1) (j+1) (xs.set i l[j]) (by omega) (by omega) (by simpa using hx) ?_ ?_ ?_ M (by omega)
        · rw [htk, ← h1, List.take_succ_eq_append_getElem (by simp; omega), List.take_set_of_le (Nat.le_refl _)]
          simp
        · rw [List.drop_set_of_lt (by omega)];exact hd
        · rw [htk,List.length_append,← h3];rfl
      | true =>
        have hone:[l[j]].filter (fun s=>!g s)=[]:=by simp [hg]
        rw [hone,List.append_nil] at htk
        simp only [Bool.not_true,kG]
        exact ih i (j+1) xs (by omega) (by omega) hx (by rw [htk];exact h1) hd (by rw [htk];exact h3) M (by omega)
  have hpre:(l.take i0).filter (fun s=>!g s)=l.take i0:=by
    refine List.filter_eq_self.2 fun a ha=>?_
    obtain ⟨j,hj,rfl⟩:=List.getElem_of_mem ha
    rw [List.length_take] at hj
    have:=List.not_of_lt_findIdx (p:=g) (xs:=l) (i:=j) (by omega)
    rw [List.getElem_take]
    simpa using this
  have hat:g l[i0]=true:=by subst hi;exact List.findIdx_getElem
  refine key (l.length - (i0+1)) i0 (i0+1) l (by omega) (by omega) rfl ?_ rfl ?_ N (by omega)
  · rw [List.take_succ_eq_append_getElem h0,List.filter_append,hpre];simp [hat]
  · rw [List.take_succ_eq_append_getElem h0,List.filter_append,hpre];simp [hat];omega
theorem del_eq {N:Nat} {f:(List Str×Int×Int)→Option ((List Str×Int×Int) ⊕ (List Str×Int))} {l:List Str} {g:Str→Bool} (hf:∀ (xs:List Str) (i j:Nat),(hj:j<xs.length)→i≤j→j<1000000→xs[j] ∈ l→f (xs,(i:Int),(j:Int))=bif !g xs[j] then some (.inl (xs.set i xs[j],((i+1:Nat):Int),((j+1:Nat):Int))) else some (.inl (xs,(i:Int),((j+1:Nat):Int)))) (he:∀ (xs:List Str) (i:Int),f (xs,i,(xs.length:Int))=some (.inr (xs,i))) (hl:l.length<1000000) (hN:1000000≤N) :
    (bif (aC .eql (Ku g l) (-1)) then (some l) else ((dh f N (l,Ku g l,(IntKind.i64.wrap (Ku g l+1)))).bind fun o8=>(TL o8.1 o8.2 (List.length o8.1:Int)).bind fun v10=>(bif Nat.beq ((Int.toNat o8.2)+(Int.toNat (List.length o8.1:Int) - Int.toNat o8.2)) (List.length o8.1) then some (List.take (Int.toNat o8.2) o8.1 ++ List.replicate (Int.toNat (List.length o8.1:Int) - Int.toNat o8.2) []) else none).bind fun v11=>(TL v11 0 o8.2).bind fun v12=>some v12))=some (l.filter fun s=>!g s):=by
  rw [yX]
  by_cases h:l.findIdx g<l.length
  · rw [J3 h, dF (by omega), kG, oJ (by omega)]
    obtain ⟨xs,h1,h2,h3⟩:=jVw hf he hl hN h rfl
    rw [h1,bS]
    simp only []
    have hk:(l.filter fun s=>!g s).length≤xs.length:=by rw [h2];exact List.length_filter_le _ _
    generalize hkk:(l.filter fun s=>!g s).length=k at h3 hk
    rw [PL hk (Nat.le_refl _),bS,Int.toNat_natCast,Int.toNat_natCast,show Nat.beq (k+(xs.length - k)) xs.length=true from by rw [Nat.beq_eq];omega,kS,bS]
    have e0:TL (List.take k xs ++ List.replicate (xs.length - k) []) 0 (k:Int)=some (((List.take k xs ++ List.replicate (xs.length - k) []).take k).drop 0):=PL (a:=0) (Nat.zero_le _) (by simp;omega)
    rw [e0,bS,List.drop_zero,List.take_append_of_le_length (by simp;omega),List.take_take,Nat.min_self,h3]
  · rw [Nb h,dT rfl,kS]
    congr 1
    refine (List.filter_eq_self.2 fun a ha=>?_).symm
    cases hg:g a with
    | false=>rfl
    | true=>exact absurd (List.findIdx_lt_length.2 ⟨a,ha,hg⟩) h
end Go.KB
namespace Go.KB
set_option linter.unusedVariables false
theorem CG {N:Nat} {l:List Str} {s:Str} (hl:l.length<1000000) (hN:1000000≤N):dQ N l s=some (BV l s):=by
 unfold dQ iU
 have h:((dh (jB N l s) N 0).bind fun o5=>Sum.elim (fun l7=>some (-1:Int)) (fun r8=>some r8) o5)=some (Ku (fun x=>decide (s=x)) l):=by
  refine xW (fun i hi=>?_) ?_ (by omega)
  ·unfold jB
   rw [bM,dT (by omega),kS,jm hi,bS,rD,oJ (by omega)]
  ·unfold jB
   rw [bM,dF (by omega),kG]
 rw [h,bS,yV]
 have:=PG (g:=fun x=>decide (s=x)) (l:=l)
 unfold BV
 cases h2:l.any (fun x=>decide (s=x)) with
 | true=>rw [h2] at this;simp at this;rw [dT (by omega)]
 | false=>rw [h2] at this;simp at this;rw [dF (by omega)]
theorem Jl {N:Nat} {l:List Int} {s:Int} (hl:l.length<1000000) (hN:1000000≤N):kD N l s=some (l.contains s):=by
 unfold kD xH
 have h:((dh (oM N l s) N 0).bind fun o5=>Sum.elim (fun l7=>some (-1:Int)) (fun r8=>some r8) o5)=some (Ku (fun x=>decide (s=x)) l):=by
  refine xW (fun i hi=>?_) ?_ (by omega)
  ·unfold oM
   rw [bM,dT (by omega),kS,jm hi,bS,yX,oJ (by omega)]
  ·unfold oM
   rw [bM,dF (by omega),kG]
 rw [h,bS,yV]
 have:=PG (g:=fun x=>decide (s=x)) (l:=l)
 have e:l.contains s=l.any (fun x=>decide (s=x)):=by
  rw [Bool.eq_iff_iff,List.contains_iff_mem,List.any_eq_true];simp
 rw [e]
 cases h2:l.any (fun x=>decide (s=x)) with
 | true=>rw [h2] at this;simp at this;rw [dT (by omega)]
 | false=>rw [h2] at this;simp at this;rw [dF (by omega)]
theorem NV.next {p:ax} (hp:NV p) (s:Str):(Dj p s).Next.length<1000:=by
 unfold Dj D6
 cases h:p.bP.find? (isS s) with
 | none=>simp
 | some y=>exact hp.n y (List.mem_of_find?_eq_some h)
theorem OU {N:Nat} {p:ax} {a b:Str} (hp:NV p) (hN:1000000≤N):vV N p a b=some (rQ p a b):=by
  unfold vV rQ
  have hs:=hp.s
  have h1:=hp.next a
  have h2:=hp.next b
  rw [Dc (by omega) hN,Dc (by omega) hN,bS,bS,rD]
  by_cases h:a=b
  · rw [dT h,if_pos h];rfl
  · rw [dF h, if_neg h, kG, show dQ N (D6 _ (isS a) p.bP).1.Next b = _ from CG (by exact Nat.lt_trans h1 (by decide)) hN, show dQ N (D6 _ (isS b) p.bP).1.Next a = _ from CG (by exact Nat.lt_trans h2 (by decide)) hN, bS]
    show ((bif (!BV (Dj p a).Next b) then some (BV (Dj p b).Next a) else some false).bind fun v4=>bif (BV (Dj p a).Next b||v4) then (some (1:Int)) else (some 2))=_
    cases BV (Dj p a).Next b with
    | true=>rfl
    | false=>cases BV (Dj p b).Next a <;> rfl
theorem jVq {N:Nat} {p:ax} {x:aQ} (hp:NV p) (hN:1000000≤N):BA N p x=some (Kr p x):=by
 unfold BA Kr
 have hs:=hp.s
 have hlim:lim ≥ 1000000:=by decide
 rw [Dc (by omega) hN,bS]
 have hk:(bif (aC .eql x.Kind 0) then (some (aC .eql x.Kind 0)) else (bif (aC .eql x.Kind 1) then (some (aC .eql x.Kind 1)) else (some (aC .eql x.Kind 2))))=some (LX x):=by
  unfold LX
  simp only [yX]
  cases decide (x.Kind=0) <;> cases decide (x.Kind=1) <;> cases decide (x.Kind=2) <;> rfl
 rw [hk,bS]
 have ho:(bif LX x then (bif (D6 (⟨[],false,[]⟩:dK) (isS x.Space) p.bP).1.fU then ((app [] [(D6 (⟨[],false,[]⟩:dK) (isS x.Space) p.bP).1.Name]).bind fun v6=>some v6) else (some [])) else (some []))=some (bif LX x&&(Dj p x.Space).fU then [(Dj p x.Space).Name] else []):=by
  show (bif LX x then (bif (Dj p x.Space).fU then ((app [] [(Dj p x.Space).Name]).bind fun v6=>some v6) else (some [])) else (some []))=_
  rw [DW (by simp only [List.length_nil,List.length_singleton];omega)]
  cases LX x <;> cases (Dj p x.Space).fU <;> rfl
 rw [ho,bS,yX]
 by_cases h0:x.Kind=0
 ·rw [dT h0,kS,kS]
  rw [Vx (f:=wK N p (D6 (⟨[],false,[]⟩:dK) (isS x.Space) p.bP)) p.bP _ (fun s=>s.fU&&decide (rQ p s.Name (Dj p x.Space).Name=1)) (fun s=>s.Name) (fun a i=>(a,i)) (fun a=>a) (fun i hi acc hacc=>?_) (fun acc=>?_) (by omega)]
  ·rfl
  ·have hacc':acc.length≤1+p.bP.length:=by
    refine Nat.le_trans hacc (Nat.add_le_add_right ?_ _)
    cases (LX x&&(Dj p x.Space).fU) <;> simp
   unfold wK
   simp only []
   rw [bM,dT (by omega),kS,jm hi,bS,OU hp hN,oJ (by omega)]
   show ((bif p.bP[i].fU then some (rQ p p.bP[i].Name (Dj p x.Space).Name) else some 0).bind fun v13=>_)=_
   cases p.bP[i].fU with
   | false=>rfl
   | true =>
    rw [kS,bS,Bool.true_and,Bool.true_and,yX]
    cases decide (rQ p p.bP[i].Name (Dj p x.Space).Name=1) with
    | false=>rfl
    | true=>rw [kS,DW (by simp only [List.length_singleton];omega)];rfl
  ·unfold wK
   simp only []
   rw [bM,dF (by omega),kG]
 ·rw [dF h0,kG,kG,List.append_nil]
theorem jVj {p:ax} {x:aQ} (hp:NV p):(Kr p x).length<2000:=by
 have hs:=hp.s
 unfold Kr
 rw [List.length_append]
 have h1:(bif LX x&&(Dj p x.Space).fU then [(Dj p x.Space).Name] else []).length≤1:=by cases (LX x&&(Dj p x.Space).fU) <;> simp
 have h2:(bif decide (x.Kind=0) then (p.bP.filter (fun s=>s.fU&&decide (rQ p s.Name (Dj p x.Space).Name=1))).map (fun s=>s.Name) else []).length≤p.bP.length:=by
  cases decide (x.Kind=0) with
  | false=>exact Nat.zero_le _
  | true=>rw [kS,List.length_map];exact List.length_filter_le _ _
 omega
end Go.KB
namespace Go.KB
set_option linter.unusedVariables false
structure AO where
 now:Int
 es:Str→ai
 ts:Str→Option au
 pp:List (Str×Str)
 done:List cu
def stA (A:AO) (s:Str):Int:=(A.es s).state
def ZP (A:AO) (n:Str) (e:ai):AO:={ A with es:=fun s=>bif decide (s=n) then e else A.es s }
def beA (A:AO) (n:Str) (k:Int):AO:=ZP A n { A.es n with state:=k }
def jZ8 (p:ax) (A:AO) (s:Str):Bool:=bif !(Dj p s).fU then true else match A.ts s with
 | none=>false
 | some t=>decide (A.now - t.at_≤p.gY)&&decide (195≤t.pR)&&decide (t.pR≤235)&&decide (t.Yf≤50)
def jZ9 (p:ax) (A:AO) (s:Str):Bool:=bif !(Dj p s).fU then true else match A.ts s with
 | none=>false
 | some t=>decide (A.now - t.at_≤p.gY)&&decide (195≤t.pR)&&decide (t.pR≤235)&&decide (t.Yf≤50)&&decide (t.Yf≤10)
def XD (p:ax) (A:AO) (x:aQ) (s:Str):Bool:=bif decide (x.Kind=0) then jZ9 p A s else jZ8 p A s
def Kt (p:ax) (A:AO) (x:aQ):List Str:=(Kr p x).filter fun s=>!XD p A x s
def NW (A:AO) (x:aQ):List Str:=x.Locks.filter fun s=>!decide (stA A s=2)
def DY (p:ax) (A:AO) (x:aQ):Bool:=!(Kt p A x).isEmpty || !(NW A x).isEmpty
def QH (now:Int) (e:ai):ai:=bif decide (e.state≤3)&&decide (e.Es≤now) then { e with state:=6 } else e
def Jh (p:ax) (A:AO):AO:={ A with es:=fun s=>bif pF p s then QH A.now (A.es s) else A.es s }
def Ht (p:ax) (A:AO):AO:={ A with es:=fun s=>bif pF p s&&decide (stA A s=2)&&DY p A (xK p s) then { A.es s with state:=3 } else A.es s }
def iY (p:ax) (A:AO):AO:=Ht p (Jh p A)
def rC (p:ax) (A:AO) (so:aQ→Bool):List Str:=(p.aO.filter fun x=>decide (stA A x.Name=2)&&so x).map fun x=>x.Name
def D7 (A:AO) (so:Str→Bool):List Str:=(A.pp.filter fun q=>so q.2).map fun q=>q.1
def QI (p:ax) (A:AO) (x:aQ):List dG :=
 (bif decide (A.now<x.From) then [(⟨2,[]⟩:dG)] else []) ++
 (([(⟨18,NW A x⟩:dG),(⟨20,rC p A (fun y=>xN p y x)⟩:dG),(⟨21,Kt p A x⟩:dG)] ++ (bif decide (x.Kind=3) then [(⟨17,D7 A (fun s=>decide (rQ p s x.Space≤1))⟩:dG)] else [])).filter fun r=>!r.Names.isEmpty)
def FT (p:ax) (A:AO) (s:Str):Bool:=!(rC p A (fun y=>decide (y.Kind=1)&&decide (y.Space=s))).isEmpty
def PN:List (Str×Str)→Str→Str→List (Str×Str)
 | [],n,s=>[(n,s)]
 | q :: r,n,s=>bif decide (q.1<n) then q :: PN r n s else (n,s) :: q :: r
def CJ (A:AO) (e:Int) (l:List Str):AO×List Str×Int:=(A,l,e)
def Ji (A:AO):AO×List Str×Int:=(A,[],0)
def Jj (A:AO) (x:cu):AO×List Str×Int:=bif !lD x.Person then CJ A 4 [] else Ji (ZP A x.Name { A.es x.Name with state:=1,N9:=x.Person })
def IE (p:ax) (A:AO) (x:cu):AO×List Str×Int :=
 bif !lD x.Person then CJ A 4 [] else bif decide (x.Person=(A.es x.Name).N9) then CJ A 26 [] else
 match QI p A (xK p x.Name) with
 | r :: _=>CJ A r.Err r.Names
 | []=>Ji (beA A x.Name 2)
def MW (p:ax) (A:AO) (x:cu):AO×List Str×Int :=
 let y:=xK p x.Name
 bif decide (y.Kind=5) && !(rC p A (fun z=>BV z.Locks y.Name)).isEmpty then CJ A 20 (rC p A (fun z=>BV z.Locks y.Name)) else
 bif decide (y.Kind=1)&&decide (stA A y.Name=2)&&(Dj p y.Space).fU&&(rC p A (fun z=>decide (z.Kind=1)&&decide (z.Space=y.Space) && !decide (z.Name=y.Name))).isEmpty && !(D7 A (fun s=>decide (s=y.Space))).isEmpty then CJ A 21 (D7 A (fun s=>decide (s=y.Space))) else
 Ji (beA A x.Name 4)
def gasA (p:ax) (A:AO) (x:cu):AO×List Str×Int :=
 bif !DX p x.Space then CJ A 6 [] else bif decide (x.Bo<0)||decide (1000<x.Bo)||decide (x.V7<0)||decide (1000<x.V7) then CJ A 2 [] else
 Ji { A with ts:=fun s=>bif decide (s=x.Space) then some ⟨A.now,x.Bo,x.V7⟩ else A.ts s }
def JX (A:AO) (n:Str):Bool:=A.pp.any fun q=>decide (q.1=n)
def VK (p:ax) (A:AO) (x:cu):AO×List Str×Int :=
 bif !lD x.Person then CJ A 4 [] else bif !DX p x.Space then CJ A 6 [] else bif JX A x.Person then CJ A 18 [] else
 bif (Dj p x.Space).fU && !FT p A x.Space then CJ A 21 [] else
 bif !(rC p A (fun y=>decide (y.Kind=3)&&decide (rQ p y.Space x.Space≤1))).isEmpty then CJ A 17 (rC p A (fun y=>decide (y.Kind=3)&&decide (rQ p y.Space x.Space≤1))) else
 Ji { A with pp:=PN A.pp x.Person x.Space }
def VL (A:AO) (x:cu):AO×List Str×Int :=
 bif !lD x.Person then CJ A 4 [] else bif !JX A x.Person then CJ A 6 [] else Ji { A with pp:=A.pp.filter fun q=>!decide (q.1=x.Person) }
def VN (p:ax) (A:AO) (x:cu):AO×List Str×Int :=
 bif !DX p x.Space then CJ A 6 [] else
 Ji { A with es:=fun s=>bif pF p s&&decide (stA A s=2)&&(!decide ((xK p s).Kind=5)&&decide (rQ p (xK p s).Space x.Space≤1)) then { A.es s with state:=3 } else A.es s }
def Q7 (A:AO) (x:cu):AO×List Str×Int :=
 bif !lD x.Person then CJ A 4 [] else bif decide (x.To≤(A.es x.Name).Es)||decide (1000000<x.To) then CJ A 2 [] else Ji (ZP A x.Name { A.es x.Name with Es:=x.To })
def FP (op:Int):Option (List Int):=if op=1 then some [0] else if op=2 then some [1] else if op=3 then some [2] else if op=4 then some [3] else if op=5 then some [2,3] else if op=6 then some [0,1] else if op=11 then some [1,2,3] else none
def Xz (p:ax) (A:AO) (x:cu):AO×List Str×Int :=
 if x.Op=0 then Ji A else if x.Op=1 then Jj A x else if x.Op=2 then IE p A x else if x.Op=3 then Ji (beA A x.Name 3) else if x.Op=4 then IE p A x else
 if x.Op=5 then MW p A x else if x.Op=6 then Ji (beA A x.Name 5) else if x.Op=7 then gasA p A x else if x.Op=8 then VK p A x else if x.Op=9 then VL A x else
 if x.Op=10 then VN p A x else Q7 A x
def OM (p:ax) (A:AO) (x:cu):AO×List Str×Int :=
 match FP x.Op with
 | none=>Xz p A x
 | some l=>bif !pF p x.Name then CJ A 6 [] else bif !l.contains (stA A x.Name) then CJ A 18 [] else Xz p A x
def TQ (p:ax) (A:AO) (x:cu):AO×List Str×Int :=
 bif decide (x.Op<0)||decide (12≤x.Op)||decide (x.At<0)||decide (1000000<x.At) then CJ A 2 [] else bif decide (x.At<A.now) then CJ A 10 [] else
 let r:=OM p (iY p { A with now:=x.At }) x
 bif decide (r.2.2=0) then ({ iY p r.1 with done:=A.done ++ [x] },[],0) else r
def newA (p:ax):AO:=iY p ⟨0,fun s=>bif pF p s then ⟨0,[],(xK p s).To⟩ else ⟨0,[],0⟩,fun _=>none,[],[]⟩
end Go.KB
