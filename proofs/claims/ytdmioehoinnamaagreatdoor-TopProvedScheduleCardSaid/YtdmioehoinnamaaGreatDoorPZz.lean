/- Plain laws of chapter 8 (proved plans): a plan is accepted if and only if it is valid. Plain laws of chapter 8 (proved plans): plans, the shortest and the cheapest one. Plain laws of chapter 8 (proved plans): least days, chains, the longest chain. Plain laws of chapter 8 (proved plans): no bound is above a plan. Plain laws of chapter 8 (proved plans): repairs. No condition. -/
import Derived.Test.YtdmioehoinnamaaGreatDoorPZ9
namespace Go.KB
set_option linter.unusedVariables false
set_option maxRecDepth 100000
def zV (m:List (Int×Int)):List Int:=m.map fun p=>p.1
theorem Ro {x:Int} {y:Int}:∀ {m:List (Int×Int)} {k:Int},k ∈ zV (xB m x y)↔k ∈ zV m∨k=x
 | [],k=>by simp [zV,xB]
 | p :: r,k=>by
  by_cases h:x=p.1
  ·simp only [xB,dT h,jm,zV,List.map_cons,List.mem_cons]
   subst h
   constructor
   ·rintro (h | h)
    ·exact .inr h
    ·exact .inl (.inr h)
   ·rintro ((h | h) | h)
    ·exact .inl h
    ·exact .inr h
    ·exact .inl h
  ·have ih:=Ro (x:=x) (y:=y) (m:=r) (k:=k)
   simp only [zV] at ih
   simp only [xB,dF h,iP,zV,List.map_cons,List.mem_cons,ih]
   constructor
   ·rintro (h | h | h)
    ·exact .inl (.inl h)
    ·exact .inl (.inr h)
    ·exact .inr h
   ·rintro ((h | h) | h)
    ·exact .inl h
    ·exact .inr (.inl h)
    ·exact .inr (.inr h)
theorem Nj {x:Int} {y:Int}:∀ {m:List (Int×Int)},(zV m).Nodup→(zV (xB m x y)).Nodup
 | [],_=>by simp [zV,xB]
 | p :: r,h=>by
  simp only [zV,List.map_cons,List.nodup_cons] at h
  by_cases e:x=p.1
  ·simp only [xB,dT e,jm,zV,List.map_cons,List.nodup_cons];exact h
  ·simp only [xB,dF e,iP,zV,List.map_cons,List.nodup_cons]
   refine ⟨fun hm=>?_,Nj h.2⟩
   rcases Ro.1 hm with h1 | h1
   ·exact h.1 h1
   ·exact e h1.symm
theorem UQ:∀ {m:List (Int×Int)},(zV m).Nodup→∀ p ∈ m,uG 0 m p.1=p.2
  | [],_,p,hp=>by cases hp
  | q :: r,h,p,hp=>by
    simp only [zV,List.map_cons,List.nodup_cons] at h
    rcases List.mem_cons.1 hp with rfl | hp
    · simp [uG]
    · have hne : p.1 ≠ q.1 := fun e => h.1 (by rw [← e]; exact List.mem_map.2 ⟨p, hp, rfl⟩)
      simp only [uG,dF hne,iP]
      exact UQ h.2 p hp
theorem UR:∀ (m:List (Int×Int)) (d:Int),uG 0 m d=0∨∃ p ∈ m,uG 0 m d=p.2
 | [],d=>.inl rfl
 | q :: r,d=>by
  by_cases h:d=q.1
  ·exact .inr ⟨q,by simp,by simp only [uG,dT h,jm]⟩
  ·simp only [uG,dF h,iP]
   rcases UR r d with h1 | ⟨p,h1,h2⟩
   ·exact .inl h1
   ·exact .inr ⟨p,List.mem_cons_of_mem _ h1,h2⟩
def Yu (a:Int) (p:Int×Int):Int:=max a p.2
theorem UU {b:Int}:∀ {l:List (Int×Int)} {a:Int},l.foldl Yu a≤b↔a≤b∧∀ p ∈ l,p.2≤b
 | [],a=>by simp
 | x :: l,a=>by
  simp only [List.foldl_cons]
  rw [UU]
  unfold Yu
  constructor
  ·rintro ⟨h1,h2⟩
   refine ⟨by omega,fun p hp=>?_⟩
   rcases List.mem_cons.1 hp with rfl | hp
   ·omega
   ·exact h2 p hp
  ·rintro ⟨h1,h2⟩
   have:=h2 x (by simp)
   exact ⟨by omega,fun p hp=>h2 p (List.mem_cons_of_mem _ hp)⟩
theorem PU {N:Nat}:∀ (l:List (Int×Int)) (a:Int),MQ (jY N) l a=some (l.foldl Yu a)
 | [],a=>rfl
 | x :: l,a=>by
  show (jY N a x).bind (MQ (jY N) l)=_
  rw [show jY N a x=some (Yu a x) from rfl,bS]
  exact PU l _
theorem UW {l m:List (Int×Int)} (h:l.Perm m) (a:Int):l.foldl Yu a=m.foldl Yu a:=by
 have h1:∀ b,l.foldl Yu a≤b↔m.foldl Yu a≤b:=fun b=>by
  rw [UU,UU]
  exact ⟨fun ⟨x,y⟩=>⟨x,fun p hp=>y p (h.mem_iff.2 hp)⟩,fun ⟨x,y⟩=>⟨x,fun p hp=>y p (h.mem_iff.1 hp)⟩⟩
 exact Int.le_antisymm ((h1 _).2 (Int.le_refl _)) ((h1 _).1 (Int.le_refl _))
theorem FT {n m c N:Nat} {f:(List cu×Int)→Option ((List cu×Int) ⊕ List cu)} {a:List cu} (Q:Nat→Prop) (hm:m≤n) (ha:a.length+(n - m) * c≤500000)
  (hf:∀ i:Nat,m≤i→i<n→∀ acc:List cu,acc.length+c≤500000→∃ b:List cu,f (acc,(i:Int))=some (.inl (acc ++ b,((i+1:Nat):Int)))∧b.length≤c∧(∀ x ∈ b,x.Reason≠0)∧(b=[]↔Q i)) (he:∀ acc,f (acc,(n:Int))=some (.inr acc)) (hN:n<N) :
  ∃ b:List cu,bM f N (a,(m:Int))=some (a ++ b)∧b.length≤(n - m) * c∧(∀ x ∈ b,x.Reason≠0)∧(b=[]↔∀ i,m≤i→i<n→Q i):=by
 have key:∀ k i M,i+k=n→m≤i→k<M→∀ a:List cu,a.length+k * c≤500000→∃ b:List cu,bM f M (a,(i:Int))=some (a ++ b)∧b.length≤k * c∧(∀ x ∈ b,x.Reason≠0)∧(b=[]↔∀ j,i≤j→j<n→Q j):=by
  intro k
  induction k with
  | zero =>
   intro i M hi hmi hM a ha
   obtain ⟨M,rfl⟩:∃ x,M=x+1:=⟨M - 1,by omega⟩
   have:i=n:=by omega
   subst this
   exact ⟨[],by rw [bM,he,List.append_nil],by simp,fun x hx=>(by cases hx),fun _ j h1 h2=>(by omega),fun _=>rfl⟩
  | succ k ih =>
   intro i M hi hmi hM a ha
   obtain ⟨M,rfl⟩:∃ x,M=x+1:=⟨M - 1,by omega⟩
   have hk:(k+1) * c=k * c+c:=Nat.succ_mul k c
   obtain ⟨b1,e1,e2,e3,e4⟩:=hf i hmi (by omega) a (by omega)
   obtain ⟨b2,g1,g2,g3,g4⟩:=ih (i+1) M (by omega) (by omega) (by omega) (a ++ b1) (by rw [List.length_append];omega)
   refine ⟨b1 ++ b2,?_,by rw [List.length_append];omega,fun x hx=>(List.mem_append.1 hx).elim (e3 x) (g3 x),fun hb j h1 h2=>?_,fun h=>?_⟩
   ·rw [bM,e1]
    show bM f M (a ++ b1,((i+1:Nat):Int))=_
    rw [g1,List.append_assoc]
   ·obtain ⟨hb1,hb2⟩:=List.append_eq_nil_iff.1 hb
    by_cases e:j=i
    ·subst e;exact e4.1 hb1
    ·exact g4.1 hb2 j (by omega) h2
   ·rw [e4.2 (h i (Nat.le_refl _) (by omega)),g4.2 fun j h1 h2=>h j (by omega) h2];rfl
 exact key (n - m) m N (by omega) (Nat.le_refl _) (by omega) a ha
theorem Nk {f:Option ((List cu×Int) ⊕ List cu)} {acc:List cu} {x:cu} {k:Int} {b:Bool} {Q:Prop} (h:f=bif b then some (.inl (acc ++ [x],k)) else some (.inl (acc,k))) (hx:x.Reason≠0) (hq:b=false↔Q):∃ b:List cu,f=some (.inl (acc ++ b,k))∧b.length≤1∧(∀ x ∈ b,x.Reason≠0)∧(b=[]↔Q):=by
 cases b with
 | true=>exact ⟨[x],h,by simp,fun y hy=>(by rw [List.mem_singleton] at hy;subst hy;exact hx),fun e=>(by cases e),fun q=>by have:=hq.2 q;cases this⟩
 | false=>exact ⟨[],by rw [h,List.append_nil];rfl,by simp,fun y hy=>(by cases hy),fun _=>hq.1 rfl,fun _=>rfl⟩
section
variable {N:Nat} {w:GWork} {l:List ah} (hN:2 ^ 64≤N) (hw:NH w) (ok:TT w) (h8:w.Items.length≤8) (hl:(dU w).Wf l) (hf:(dU w).Full l)
include hN hw ok h8 hl hf
theorem Yv:∃ b,nP N w l=some b∧b.length≤1000∧(∀ x ∈ b,x.Reason≠0)∧(b=[]↔∀ i,i<w.Items.length→∀ k,k<w.Items.length→(dU w).pri i k=true→(dU w).en k l[k]! ≤ l[i]!.day):=by
  have hll:l.length=w.Items.length:=hl.len
  have hlim:lim ≥ 1000000:=by decide
  unfold nP
  rw [EI hN hw,bS]
  obtain ⟨v,hv⟩:∃ v,v=(List.range w.Items.length).map (pJ w):=⟨_,rfl⟩
  have hvl:v.length=w.Items.length:=by rw [hv];simp
  have hva:∀ i,(h:i<v.length)→v[i]=pJ w i:=fun i h=>by subst hv;simp
  rw [← hv]
  obtain ⟨b,b1,b2,b3,b4⟩:=FT (n:=v.length) (m:=0) (c:=12) (N:=N) (f:=mG N w l v) (a:=[]) (fun i=>∀ k,k<w.Items.length→(dU w).pri i k=true→(dU w).en k l[k]! ≤ l[i]!.day) (Nat.zero_le _) (by simp only [List.length_nil];omega) (fun i _ hi acc hacc=>by
    have haf:=hw.a i (by omega)
    have hbl:(pJ w i).length=w.Items[i]!.After.length:=by unfold pJ;rw [List.length_map]
    obtain ⟨b,b1,b2,b3,b4⟩:=FT (n:=(pJ w i).length) (m:=0) (c:=1) (N:=N) (f:=mJ N w l (acc,(i:Int)) (pJ w i)) (a:=acc) (fun j=>(dU w).en (pJ w i)[j]!.toNat l[(pJ w i)[j]!.toNat]! ≤ l[i]!.day) (Nat.zero_le _) (by omega) (fun j _ hj acc2 hacc2=>by
      obtain ⟨t,e,htl⟩:=PV hN hw ok h8 (i:=i) (by omega) _ (List.getElem_mem hj)
      obtain ⟨e1,e2,e3⟩:=zk hN hw ok h8 htl (hl.on t htl (hf t htl))
      refine Nk (b:=decide (l[i]!.day<(dU w).en t l[t]!)) (x:=⟨w.Items[t]!.Name,w.Items[i]!.Name,10⟩) ?_ (by simp) ?_
      · unfold mJ
        simp only []
        rw [aO,dT (by omega),jm,jX hj,bS,e,iV (by omega),bS,iV htl,bS,e1,bS,iV (by omega),bS,jE,iV (by omega),bS,bS,GX (by rw [List.length_singleton];omega),bS,kN (by omega)]
      · rw [uD hj,e,Int.toNat_natCast,decide_eq_false_iff_not];omega) (fun acc2=>by
      unfold mJ
      simp only []
      rw [aO,dF (by omega),iP]) (by omega)
    refine ⟨b,?_,by omega,b3,b4.trans ⟨fun h k hk hp=>?_,fun h j _ hj=>?_⟩⟩
    · unfold mG
      simp only []
      have b1:bM (mJ N w l (acc,(i:Int)) (pJ w i)) N (acc,0)=_:=b1
      rw [aO,dT (by omega),jm,jX hi,bS,hva i hi,b1,bS,kN (by omega)]
    · obtain ⟨j,hj,e⟩:=List.getElem_of_mem (List.contains_iff_mem.1 hp)
      have:=h j (Nat.zero_le _) hj
      rwa [uD hj,e,Int.toNat_natCast] at this
    · obtain ⟨t, e, htl⟩ := PV hN hw ok h8 (i := i) (by omega) _ (List.getElem_mem hj)
      rw [uD hj,e,Int.toNat_natCast]
      exact h t htl (List.contains_iff_mem.2 (by rw [← e];exact List.getElem_mem hj))) (fun acc=>by
    unfold mG
    simp only []
    rw [aO,dF (by omega),iP]) (by omega)
  have b1:bM (mG N w l v) N ([],0)=_:=b1
  rw [b1,bS,List.nil_append]
  exact ⟨b,rfl,by omega,b3,b4.trans ⟨fun h i hi=>h i (Nat.zero_le _) (by omega),fun h i _ hi=>h i (by omega)⟩⟩
theorem ZK:∃ b,pI N w l=some b∧b.length≤1000∧(∀ x ∈ b,x.Reason≠0)∧(b=[]↔∀ i,i<w.Items.length→(dU w).en i l[i]! ≤ w.Last):=by
 have hll:l.length=w.Items.length:=hl.len
 have hlim:lim ≥ 1000000:=by decide
 obtain ⟨b,b1,b2,b3,b4⟩:=FT (n:=l.length) (m:=0) (c:=1) (N:=N) (f:=nT N w l) (a:=[]) (fun i=>(dU w).en i l[i]! ≤ w.Last) (Nat.zero_le _) (by simp only [List.length_nil];omega) (fun i _ hi acc hacc=>by
  have hi':i<w.Items.length:=by omega
  obtain ⟨e1,e2,e3⟩:=zk hN hw ok h8 hi' (hl.on i hi' (hf i hi'))
  refine Nk (b:=decide (w.Last<(dU w).en i l[i]!)) (x:=⟨w.Items[i]!.Name,[],16⟩) ?_ (by simp) ?_
  ·unfold nT
   simp only []
   rw [aO,dT (by omega),jm,iV hi,bS,iV (by omega),bS,e1,bS,jE,bS,GX (by rw [List.length_singleton];omega),bS,kN (by omega)]
  ·rw [decide_eq_false_iff_not];omega) (fun acc=>by
  unfold nT
  simp only []
  rw [aO,dF (by omega),iP]) (by omega)
 unfold pI
 have b1:bM (nT N w l) N ([],0)=_:=b1
 rw [b1,bS,List.nil_append]
 exact ⟨b,rfl,by omega,b3,b4.trans ⟨fun h i hi=>h i (Nat.zero_le _) (by omega),fun h i _ hi=>h i (by omega)⟩⟩
theorem Wi:∃ b,mD N w l=some b∧b.length≤1000∧(∀ x ∈ b,x.Reason≠0)∧(b=[]↔∀ i,i<w.Items.length→(dU w).st i l[i]! = false):=by
 have hll:l.length=w.Items.length:=hl.len
 have hlim:lim ≥ 1000000:=by decide
 obtain ⟨b,b1,b2,b3,b4⟩:=FT (n:=l.length) (m:=0) (c:=1) (N:=N) (f:=lT N w l) (a:=[]) (fun i=>(dU w).st i l[i]! = false) (Nat.zero_le _) (by simp only [List.length_nil];omega) (fun i _ hi acc hacc=>by
  have hi':i<w.Items.length:=by omega
  have hst:=UX hN hw ok h8 hi' (hl.on i hi' (hf i hi'))
  refine Nk (b:=(dU w).st i l[i]!) (x:=⟨w.Items[i]!.Name,[],18⟩) ?_ (by simp) Iff.rfl
  unfold lT
  simp only []
  rw [aO,dT (by omega),jm,iV hi,bS,iV (by omega),bS,hst,bS,bS,GX (by rw [List.length_singleton];omega),bS,kN (by omega)]) (fun acc=>by
  unfold lT
  simp only []
  rw [aO,dF (by omega),iP]) (by omega)
 unfold mD
 have b1:bM (lT N w l) N ([],0)=_:=b1
 rw [b1,bS,List.nil_append]
 exact ⟨b,rfl,by omega,b3,b4.trans ⟨fun h i hi=>h i (Nat.zero_le _) (by omega),fun h i _ hi=>h i (by omega)⟩⟩
def WR (w:GWork) (l:List ah) (i k:Nat):Bool:=decide (l[i]!.day<(dU w).en k l[k]!)&&decide (l[k]!.day<(dU w).en i l[i]!)
theorem ZL {i k:Nat} (hi:i<w.Items.length) (hk:k<w.Items.length):xM N w l (i:Int) (k:Int)=some (WR w l i k):=by
 have hll:l.length=w.Items.length:=hl.len
 obtain ⟨e1,_,_⟩:=zk hN hw ok h8 hi (hl.on i hi (hf i hi))
 obtain ⟨e2,_,_⟩:=zk hN hw ok h8 hk (hl.on k hk (hf k hk))
 have o1:=hf i hi
 have o2:=hf k hk
 unfold xM WR
 rw [iV (by omega),bS,o1,jm,iV (by omega),bS,o2,Bool.and_self,jm,bS,jm,bS,jm,iV (by omega),bS,jm,e2,bS,Bool.true_and,aO]
 cases decide (l[i]!.day<(dU w).en k l[k]!) with
 | false=>rfl
 | true =>
  rw [jm,bS,jm,bS,jm,iV (by omega),bS,jm,e1,bS,aO]
theorem Yw:∃ b,kT N w l=some b∧b.length≤2000∧(∀ x ∈ b,x.Reason≠0)∧(b=[]↔∀ i k,i<k→k<w.Items.length→(WR w l i k&&RX w w.Items[i]! w.Items[k]!)=false):=by
 have hll:l.length=w.Items.length:=hl.len
 have hlim:lim ≥ 1000000:=by decide
 obtain ⟨b,b1,b2,b3,b4⟩:=FT (n:=l.length) (m:=0) (c:=40) (N:=N) (f:=kM N w l) (a:=[]) (fun i=>∀ k,i<k→k<l.length→(WR w l i k&&RX w w.Items[i]! w.Items[k]!)=false) (Nat.zero_le _) (by simp only [List.length_nil];omega) (fun i _ hi acc hacc=>by
  obtain ⟨b,b1,b2,b3,b4⟩:=FT (n:=l.length) (m:=i+1) (c:=1) (N:=N) (f:=mr N w l (acc,(i:Int))) (a:=acc) (fun k=>(WR w l i k&&RX w w.Items[i]! w.Items[k]!)=false) (by omega) (by omega) (fun k hk1 hk acc2 hacc2=>by
   refine Nk (b:=WR w l i k&&RX w w.Items[i]! w.Items[k]!) (x:=⟨w.Items[i]!.Name,w.Items[k]!.Name,17⟩) ?_ (by simp) Iff.rfl
   unfold mr
   simp only []
   rw [aO,dT (by omega),jm,ZL hN hw ok h8 hl hf (by omega) (by omega),bS,Rq hN hw (by omega) (by omega),iV (by omega),iV (by omega),bS,bS,GX (by rw [List.length_singleton];omega),bS,kN (by omega)]
   cases WR w l i k with
   | true=>rw [jm,bS]
   | false=>rfl) (fun acc2=>by
   unfold mr
   simp only []
   rw [aO,dF (by omega),iP]) (by omega)
  refine ⟨b,?_,by omega,b3,b4.trans ⟨fun h k h1 h2=>h k (by omega) h2,fun h k h1 h2=>h k (by omega) h2⟩⟩
  unfold kM
  simp only []
  rw [aO,dT (by omega),jm,kN (by omega),b1,bS]) (fun acc=>by
  unfold kM
  simp only []
  rw [aO,dF (by omega),iP]) (by omega)
 unfold kT
 have b1:bM (kM N w l) N ([],0)=_:=b1
 rw [b1,bS,List.nil_append]
 exact ⟨b,rfl,by omega,b3,b4.trans ⟨fun h i k h1 h2=>h i (Nat.zero_le _) (by omega) k h1 (by omega),fun h i _ h1 k h2 h3=>h i k h2 (by omega)⟩⟩
theorem Wj {nm:Str}:∃ m,sZ N w l nm=some m∧(zV m).Nodup∧∀ d,uG 0 m d=(dU w).use l d nm:=by
  have hpb:=BA ok h8
  have hll:l.length=w.Items.length:=hl.len
  have hcb:∀ k,k<w.Items.length→∀ d,0≤(dU w).EJ k l[k]! d nm∧(dU w).EJ k l[k]! d nm≤1000:=fun k hk d=>by
    refine ⟨Pb.PW hpb hk (hl.on k hk),?_⟩
    unfold Pb.EJ
    split
    · have:=hl.on k hk (hf k hk)
      exact (hpb.cr k hk _ this.m0 this.m1).2
    · omega
  have hsb:∀ j,j≤w.Items.length→∀ d,0≤lC (fun k=>(dU w).EJ k l[k]! d nm) j∧lC (fun k=>(dU w).EJ k l[k]! d nm) j≤j * 1000:=fun j hj d =>
    ⟨FU fun i hi=>(hcb i (by omega) d).1,DT fun i hi=>(hcb i (by omega) d).2⟩
  unfold sZ
  obtain ⟨o,ho,hp1,hp2⟩:=ni (f:=nR N w l nm) (I:=fun q=>∃ j:Nat,q.2=(j:Int)∧j≤w.Items.length∧(zV q.1).Nodup∧∀ d,uG 0 q.1 d=lC (fun k=>(dU w).EJ k l[k]! d nm) j) (μ:=fun q=>w.Items.length - q.2.toNat) (post:=fun m=>(zV m).Nodup∧∀ d,uG 0 m d=(dU w).use l d nm) (by
    rintro ⟨m,sj⟩ ⟨j,hj,hjl,hnd,hm⟩
    simp only at hj hnd hm
    subst hj
    by_cases hlt:j<w.Items.length
    · left
      have hon:=hf j hlt
      have hso:=hl.on j hlt hon
      obtain ⟨e1,e2,e3⟩:=zk hN hw ok h8 hlt hso
      have hd0:=hso.d0
      have hm1:l[j]!.mode<(w.Items[j]!.Modes.length:Int):=hso.m1
      have hm0:=hso.m0
      obtain ⟨md,hmd⟩:∃ md:Nat,l[j]!.mode=(md:Int):=⟨l[j]!.mode.toNat,by omega⟩
      have hcr:=hpb.cr j hlt _ hso.m0 hso.m1
      have hcre:(dU w).cr j l[j]!.mode=w.Items[j]!.Modes[md]!.gB:=by
        show w.Items[j]!.Modes[l[j]!.mode.toNat]!.gB=_
        rw [hmd,Int.toNat_natCast]
      rw [hcre] at hcr
      have step:w.Items.length - ((j+1:Nat):Int).toNat<w.Items.length - ((j:Nat):Int).toNat:=by simp only [Int.toNat_natCast];omega
      by_cases ht:w.Items[j]!.iq=nm
      · have hcw:∀ d,(dU w).EJ j l[j]! d nm=if l[j]!.day≤d∧d<(dU w).en j l[j]! then w.Items[j]!.Modes[md]!.gB else 0:=fun d=>by
          unfold Pb.EJ
          by_cases h:l[j]!.day≤d∧d<(dU w).en j l[j]!
          · rw [if_pos h,if_pos ⟨hon,ht,h⟩,hcre]
          · rw [if_neg h,if_neg fun x=>h x.2.2]
        obtain ⟨o,ho,g1,g2⟩:=ni (f:=qH N l[j]! w.Items[j]!) (I:=fun q=>l[j]!.day≤q.2∧q.2≤(dU w).en j l[j]! ∧ (zV q.1).Nodup∧∀ d,uG 0 q.1 d=uG 0 m d+if l[j]!.day≤d∧d<q.2 then w.Items[j]!.Modes[md]!.gB else 0) (μ:=fun q=>((dU w).en j l[j]! - q.2).toNat) (post:=fun o=>(zV o).Nodup∧∀ d,uG 0 o d=uG 0 m d+if l[j]!.day≤d∧d<(dU w).en j l[j]! then w.Items[j]!.Modes[md]!.gB else 0) (by
          rintro ⟨q,d⟩ ⟨hd1,hd2,hd3,hd4⟩
          simp only at hd1 hd2 hd3 hd4
          by_cases hd:d<(dU w).en j l[j]!
          · left
            have hqd:uG 0 q d=uG 0 m d:=by rw [hd4,if_neg (by omega),Int.add_zero]
            have hmd2:=hm d
            have hsbd:=hsb j (by omega) d
            refine ⟨(xB q d (uG 0 m d+w.Items[j]!.Modes[md]!.gB),d+1),?_,⟨by simp only [];omega,by simp only [];omega,Nj hd3,fun d'=>?_⟩,by simp only [];omega⟩
            · unfold qH
              simp only []
              rw [e1,bS,aO,dT hd,jm,hmd,iV (by omega),bS,hqd,BU (n:=d+1) (by omega) (by omega),BU (by omega) (by omega)]
            · show uG 0 (xB q d (uG 0 m d+w.Items[j]!.Modes[md]!.gB)) d'=uG 0 m d'+if l[j]!.day≤d'∧d'<d+1 then w.Items[j]!.Modes[md]!.gB else 0
              rw [Ku]
              by_cases e:d'=d
              · subst e;rw [if_pos rfl,if_pos (by omega)]
              · rw [if_neg e,hd4]
                by_cases h:l[j]!.day≤d'∧d'<d
                · rw [if_pos h,if_pos (by omega)]
                · rw [if_neg h,if_neg (by omega)]
          · right
            have:d=(dU w).en j l[j]!:=by omega
            subst this
            refine ⟨q,?_,hd3,hd4⟩
            unfold qH
            simp only []
            rw [e1,bS,aO,dF hd,iP]) N (m,l[j]!.day) ⟨Int.le_refl _,by simp only [];omega,hnd,fun d=>by simp only [];rw [if_neg (by omega),Int.add_zero]⟩ (by simp only [];omega)
        refine ⟨(o,((j+1:Nat):Int)),?_,⟨j+1,rfl,by omega,g1,fun d=>?_⟩,step⟩
        · unfold nR
          simp only []
          rw [hll,aO,dT (by omega),jm,iV (by omega),bS,iV (by omega),bS,hon,Jt,dT ht,Bool.not_true,Bool.or_self,iP,ho,bS,kN (by omega)]
        · show uG 0 o d=lC (fun k=>(dU w).EJ k l[k]! d nm) (j+1)
          rw [g2,hm]
          simp only [lC]
          rw [hcw]
      · refine ⟨(m, ((j + 1 : Nat) : Int)), ?_, ⟨j + 1, rfl, by omega, hnd, fun d => ?_⟩, step⟩
        · unfold nR
          simp only []
          rw [hll,aO,dT (by omega),jm,iV (by omega),bS,iV (by omega),bS,hon,Jt,dF ht,Bool.not_true,Bool.not_false,Bool.false_or,jm,kN (by omega)]
        · show uG 0 m d=lC (fun k=>(dU w).EJ k l[k]! d nm) (j+1)
          rw [hm]
          simp only [lC]
          have:(dU w).EJ j l[j]! d nm=0:=by
            unfold Pb.EJ
            rw [if_neg fun x=>ht x.2.1]
          rw [this,Int.add_zero]
    · right
      have:j=w.Items.length:=by omega
      subst this
      refine ⟨m,?_,hnd,hm⟩
      unfold nR
      simp only []
      rw [hll,aO,dF (by omega),iP]) N (([]:List (Int×Int)),0) ⟨0,rfl,Nat.zero_le _,List.nodup_nil,fun d=>rfl⟩ (by simp only [];omega)
  rw [ho]
  exact ⟨o,rfl,hp1,hp2⟩
theorem TU:∃ b,kG N w l=some b∧b.length≤1000∧(∀ x ∈ b,x.Reason≠0)∧(b=[]↔∀ t,t<w.aY.length→∀ d,(dU w).use l d w.aY[t]!.Name≤w.aY[t]!.gB):=by
 have ht:=hw.t
 have hlim:lim ≥ 1000000:=by decide
 obtain ⟨b,b1,b2,b3,b4⟩:=FT (n:=w.aY.length) (m:=0) (c:=1) (N:=N) (f:=iG N w l) (a:=[]) (fun t=>∀ d,(dU w).use l d w.aY[t]!.Name≤w.aY[t]!.gB) (Nat.zero_le _) (by simp only [List.length_nil];omega) (fun i _ hi acc hacc=>by
  obtain ⟨m,hm,hnd,hmu⟩:=Wj hN hw ok h8 hl hf (nm:=w.aY[i]!.Name)
  have hcr:=(ok.tr i hi).2.2.1
  refine Nk (b:=decide (w.aY[i]!.gB<m.foldl Yu 0)) (x:=⟨w.aY[i]!.Name,[],23⟩) ?_ (by simp) ?_
  ·unfold iG
   simp only []
   rw [aO,dT (by omega),jm,iV hi,bS,hm,bS]
   have:∀ π:List (Int×Int),π.Perm m→((MQ (jY N) π 0).bind fun s6=>bif (ax .gtr s6 w.aY[i]!.gB) then ((app acc [(⟨w.aY[i]!.Name,[],23⟩:cu)]).bind fun v9=>(some (.inl (v9,(IntKind.i64.wrap ((i:Int)+1)))):Option ((List cu×Int) ⊕ List cu))) else (some (.inl (acc,(IntKind.i64.wrap ((i:Int)+1))))))=bif decide (w.aY[i]!.gB<m.foldl Yu 0) then some (.inl (acc ++ [⟨w.aY[i]!.Name,[],23⟩],((i+1:Nat):Int))) else some (.inl (acc,((i+1:Nat):Int))):=by
    intro π hπ
    rw [PU,bS,UW hπ,jE,GX (by rw [List.length_singleton];omega),bS,kN (by omega)]
   cases hc:decide (w.aY[i]!.gB<m.foldl Yu 0) with
   | true =>
    rw [hc] at this
    exact Ko this
   | false =>
    rw [hc] at this
    exact Ko this
  ·rw [decide_eq_false_iff_not,Int.not_lt,UU]
   constructor
   ·rintro ⟨_,h⟩ d
    rw [← hmu]
    rcases UR m d with h1 | ⟨p,h1,h2⟩
    ·rw [h1];exact hcr.1
    ·rw [h2];exact h p h1
   ·intro h
    refine ⟨hcr.1,fun p hp=>?_⟩
    rw [← UQ hnd p hp,hmu]
    exact h p.1) (fun acc=>by
  unfold iG
  simp only []
  rw [aO,dF (by omega),iP]) (by omega)
 unfold kG
 have b1:bM (iG N w l) N ([],0)=_:=b1
 rw [b1,bS,List.nil_append]
 exact ⟨b,rfl,by omega,b3,b4.trans ⟨fun h i hi=>h i (Nat.zero_le _) hi,fun h i _ hi=>h i hi⟩⟩
end
end Go.KB
namespace Go.KB
set_option linter.unusedVariables false
set_option maxRecDepth 100000
theorem Ot {N:Nat} {w:GWork} {l:List ah} {e:Int} {b1 b2 b3 b4 b5:List cu} (hN:2 ^ 64≤N) (h1:nP N w l=some b1) (h2:kG N w l=some b2) (h3:kT N w l=some b3) (h4:mD N w l=some b4) (h5:pI N w l=some b5)
  (hb:b1.length≤2000∧b2.length≤2000∧b3.length≤2000∧b4.length≤2000∧b5.length≤2000) :
  (rG N).bind (fun v2=>(bM (jI N w (l,e) v2) N ([],0)).bind fun o8=>(some (o8,0):Option ((List cu)×Int)))=some ((((b1 ++ b2) ++ b3) ++ b4) ++ b5,0):=by
 have hlim:lim ≥ 1000000:=by decide
 obtain ⟨c,hc⟩:∃ c:List dN,c=[⟨some 110⟩,⟨some 111⟩,⟨some 112⟩,⟨some 113⟩,⟨some 114⟩]:=⟨_,rfl⟩
 have hcol:rG N=some c:=by rw [hc];rfl
 have hcl:c.length=5:=by rw [hc];rfl
 have g1:∀ (i:Nat) (a b:List cu) (hi:i<5),oC N (c[i]'(by omega)).find w l=some b→a.length+b.length≤500000→jI N w (l,e) c (a,(i:Int))=some (.inl (a ++ b,((i+1:Nat):Int))):=by
  intro i a b hi h hab
  unfold jI
  simp only []
  rw [aO,dT (by omega),jm,jX (by omega),bS,h,bS,GX (by omega),bS,kN (by omega)]
 have a0:oC N (c[0]'(by omega)).find w l=some b1:=by subst hc;show (nP N w l).bind _=_;rw [h1];rfl
 have a1:oC N (c[1]'(by omega)).find w l=some b2:=by subst hc;show (kG N w l).bind _=_;rw [h2];rfl
 have a2:oC N (c[2]'(by omega)).find w l=some b3:=by subst hc;show (kT N w l).bind _=_;rw [h3];rfl
 have a3:oC N (c[3]'(by omega)).find w l=some b4:=by subst hc;show (mD N w l).bind _=_;rw [h4];rfl
 have a4:oC N (c[4]'(by omega)).find w l=some b5:=by subst hc;show (pI N w l).bind _=_;rw [h5];rfl
 have s0:=g1 0 [] b1 (by omega) a0 (by simp only [List.length_nil];omega)
 have s1:=g1 1 b1 b2 (by omega) a1 (by omega)
 have s2:=g1 2 (b1 ++ b2) b3 (by omega) a2 (by rw [List.length_append];omega)
 have s3:=g1 3 ((b1 ++ b2) ++ b3) b4 (by omega) a3 (by rw [List.length_append,List.length_append];omega)
 have s4:=g1 4 (((b1 ++ b2) ++ b3) ++ b4) b5 (by omega) a4 (by rw [List.length_append,List.length_append,List.length_append];omega)
 have s5:jI N w (l,e) c ((((b1 ++ b2) ++ b3) ++ b4) ++ b5,((5:Nat):Int))=some (.inr ((((b1 ++ b2) ++ b3) ++ b4) ++ b5)):=by
  unfold jI
  simp only []
  rw [hcl,aO,dF (by omega),iP]
 rw [hcol,bS]
 generalize hF:jI N w (l,e) c=F at s0 s1 s2 s3 s4 s5
 have s0':F ([],0)=some (.inl ([] ++ b1,((0+1:Nat):Int))):=s0
 obtain ⟨M,rfl⟩:∃ x,N=x+6:=⟨N - 6,by omega⟩
 have:bM F (M+6) ([],0)=some ((((b1 ++ b2) ++ b3) ++ b4) ++ b5):=by
  rw [bM,s0']
  show bM F (M+5) _=_
  rw [List.nil_append,bM,s1]
  show bM F (M+4) _=_
  rw [bM,s2]
  show bM F (M+3) _=_
  rw [bM,s3]
  show bM F (M+2) _=_
  rw [bM,s4]
  show bM F (M+1) _=_
  rw [bM,s5]
 rw [this];rfl
def pW:GWork:=⟨[⟨[97],[119],[⟨3,1⟩],[],-1,false,[]⟩],[⟨[119],1,0⟩],[],[],[],0,0,0,5⟩
def pL:List ah:=[⟨0,1,true⟩]
theorem Wl:sZ (2 ^ 70) pW pL [119]=some [(1,1),(2,1),(3,1)]:=by kernel_rfl
theorem TV:kG (2 ^ 70) pW pL=some []:=by
 have h1:iG (2 ^ 70) pW pL ([],0)=some (.inl ([],1)):=by
  unfold iG
  simp only []
  rw [show ax .lss (0:Int) (List.length pW.aY:Int)=true from rfl,jm,show idx pW.aY 0=some ⟨[119],1,0⟩ from rfl,bS,Wl,bS]
  refine Ko fun π hπ=>?_
  rw [PU,bS,UW hπ];rfl
 have h2:iG (2 ^ 70) pW pL ([],1)=some (.inr []):=by kernel_rfl
 unfold kG
 generalize iG (2 ^ 70) pW pL=F at h1 h2
 have hN:(2:Nat) ^ 70=(2 ^ 70 - 2)+2:=by decide
 rw [hN,bM,h1]
 show (bM F ((2 ^ 70 - 2)+1) ([],1)).bind _=_
 rw [bM,h2];rfl
theorem TS:wu (2 ^ 70)=some true:=by
 have hs:iW (2 ^ 70) pW [⟨[97],0,1⟩]=some (pL,0):=by kernel_rfl
 have c1:nP (2 ^ 70) pW pL=some []:=by kernel_rfl
 have c3:kT (2 ^ 70) pW pL=some []:=by kernel_rfl
 have c4:mD (2 ^ 70) pW pL=some []:=by kernel_rfl
 have c5:pI (2 ^ 70) pW pL=some []:=by kernel_rfl
 have hd:jZ (2 ^ 70) pW pL=some 4:=by kernel_rfl
 have hb:qV (2 ^ 70) pW [⟨[97],0,1⟩]=some ([],0):=by
  unfold qV
  rw [hs,bS]
  exact Ot (by decide) c1 TV c3 c4 c5 (by decide)
 have hp:nY (2 ^ 70) pW [⟨[97],0,1⟩]=some (pL,0):=by
  unfold nY
  rw [hb,hs];rfl
 have hD:kU (2 ^ 70) pW [⟨[97],0,1⟩]=some (4,0):=by
  unfold kU
  rw [hp,bS]
  simp only []
  rw [show ax .neq (0:Int) 0=false from rfl,iP,hd];rfl
 show (kU (2 ^ 70) pW [⟨[97],0,1⟩]).bind _=_
 rw [hD];rfl
def Z0 (w:GWork):List Int:=List.replicate w.Items.length 0
def P0 (w:GWork):List ah:=List.replicate w.Items.length S0
theorem UY {w:GWork} (i:Nat):(Z0 w)[i]! = 0:=by
 unfold Z0
 by_cases h:i<w.Items.length
 ·rw [uD (by simpa using h)];simp
 ·rw [List.getElem!_eq_getElem?_getD,List.getElem?_eq_none (by simpa using h)];rfl
theorem Kv {w:GWork}:(Z0 w).length=w.Items.length:=by unfold Z0;simp
theorem UZ {w:GWork}:∀ i,i<w.Items.length→0≤(Z0 w)[i]! ∧ (Z0 w)[i]! ≤ 400:=fun i _=>by rw [UY];omega
theorem U0 {w:GWork} {i:Nat} (h:i<w.Items.length):(P0 w)[i]! = S0:=by
 unfold P0
 rw [uD (by simpa using h)];simp
theorem U1 {w:GWork}:(dU w).Wf (P0 w):=⟨List.length_replicate,fun i hi h=>(by rw [U0 hi] at h;cases h),fun i hi _=>U0 hi⟩
theorem p0_sub {w:GWork} {L:List ah}:(dU w).Sub (P0 w) L:=fun i hi h=>by rw [U0 hi] at h;cases h
structure yG (w:GWork) (L:List ah):Prop where
 wf:(dU w).Wf L
 full:(dU w).Full L
 valid:(dU w).Valid (D9 (Z0 w)) L
theorem yG.comp {w:GWork} {L:List ah} (h:yG w L):(dU w).A8 (D9 (Z0 w)) (P0 w) L:=⟨h.wf,h.full,h.valid,p0_sub⟩
def outW (w:GWork) (l:List ah):List GSlot:=(List.range w.Items.length).map fun i=>⟨w.Items[i]!.Name,l[i]!.mode,l[i]!.day⟩
section
variable {N:Nat} {w:GWork} (hN:2 ^ 64+9≤N) (hw:NH w) (ok:TT w) (h8:w.Items.length≤8)
include hN hw ok h8
theorem Ou {l:List ah} (hl:(dU w).Wf l) (hf:(dU w).Full l):(dU w).Valid (D9 (Z0 w)) l↔(∀ i,i<w.Items.length→∀ k,k<w.Items.length→(dU w).pri i k=true→(dU w).en k l[k]! ≤ l[i]!.day)∧(∀ t,t<w.aY.length→∀ d,(dU w).use l d w.aY[t]!.Name≤w.aY[t]!.gB)∧(∀ i k,i<k→k<w.Items.length→(WR w l i k&&RX w w.Items[i]! w.Items[k]!)=false)∧(∀ i,i<w.Items.length→(dU w).st i l[i]! = false)∧∀ i,i<w.Items.length→(dU w).en i l[i]! ≤ w.Last:=by
  have _:=hw
  have hN':2 ^ 64≤N:=by omega
  have hpb:=BA ok h8
  have hll:l.length=w.Items.length:=hl.len
  have hapt:∀ i k,(dU w).ap i k=(decide (i≠k)&&RX w w.Items[i]! w.Items[k]!):=fun _ _=>rfl
  constructor
  · intro hv
    refine ⟨fun i hi k hk hp=>?_,fun t ht d=>?_,fun i k hik hk=>?_,fun i hi=>(hv i hi (hf i hi)).solo.2.2,fun i hi=>(hv i hi (hf i hi)).solo.2.1⟩
    · have hki : k ≠ i := fun e => by subst e; rw [hpb.irr k hk] at hp; cases hp
      exact ((hv i hi (hf i hi)).pair k hk hki (hf k hk)).1 hp
    · by_cases h : ∃ i, i < w.Items.length ∧ w.Items[i]!.iq = w.aY[t]!.Name ∧ l[i]!.day ≤ d ∧ d < (dU w).en i l[i]!
      · obtain ⟨i,hi,h1,h2,h3⟩:=h
        have:=(hv i hi (hf i hi)).use d h2 h3
        rw [set_self (by omega)] at this
        have e1:(dU w).tr i=w.aY[t]!.Name:=h1
        have e2:(dU w).cap i=w.aY[t]!.gB:=by
          show w.aY[(BV (JJ w) w.Items[i]!.iq).toNat]!.gB=_
          rw [h1,(ok.tr t ht).2.1,Int.toNat_natCast]
        rwa [e1,e2] at this
      · have:(dU w).use l d w.aY[t]!.Name=0:=EK fun k hk=>by
          unfold Pb.EJ
          rw [if_neg fun x=>h ⟨k,hk,x.2.1,x.2.2⟩]
        rw [this]
        exact (ok.tr t ht).2.2.1.1
    · have hi : i < w.Items.length := by omega
      cases hm:WR w l i k with
      | false=>rfl
      | true =>
        cases ha:RX w w.Items[i]! w.Items[k]! with
        | false=>rfl
        | true =>
          exfalso
          have h1:=((hv i hi (hf i hi)).pair k hk (by omega) (hf k hk)).2.2 (by rw [hapt,ha,dT (by omega)];rfl)
          unfold WR at hm
          rw [Bool.and_eq_true,decide_eq_true_eq,decide_eq_true_eq] at hm
          omega
  · rintro ⟨h1,h2,h3,h4,h5⟩ i hi hon
    refine ⟨⟨?_,h5 i hi,h4 i hi⟩,fun k hk hki _=>⟨fun hp=>h1 i hi k hk hp,fun hp=>h1 k hk i hi hp,fun ha=>?_⟩,fun d hd1 hd2=>?_⟩
    · show (Z0 w)[i]! ≤ l[i]!.day
      rw [UY];exact (hl.on i hi hon).d0
    · rw [hapt,Bool.and_eq_true] at ha
      by_cases hlt:i<k
      · have:=h3 i k hlt hk
        rw [ha.2,Bool.and_true] at this
        unfold WR at this
        rw [Bool.and_eq_false_iff,decide_eq_false_iff_not,decide_eq_false_iff_not] at this
        omega
      · have := h3 k i (by omega) hi
        rw [apW_c,ha.2,Bool.and_true] at this
        unfold WR at this
        rw [Bool.and_eq_false_iff,decide_eq_false_iff_not,decide_eq_false_iff_not] at this
        omega
    · rw [set_self (by have hi : i < w.Items.length := hi; omega)]
      obtain ⟨t,t1,t2,t3⟩:=GY (ok.it i hi).2.2.tr
      rw [yQ] at t1
      rw [Yx t1] at t3
      have:=h2 t t1 d
      have e1:(dU w).tr i=w.aY[t]!.Name:=t3.symm
      have e2:(dU w).cap i=w.aY[t]!.gB:=by
        show w.aY[(BV (JJ w) w.Items[i]!.iq).toNat]!.gB=_
        rw [t2,Int.toNat_natCast]
      rw [e1,e2];exact this
theorem U2 {s:List GSlot} {l:List ah} (hs:iW N w s=some (l,0)) (hl:(dU w).Wf l) (hf:(dU w).Full l):(yG w l∧nY N w s=some (l,0))∨(¬ yG w l∧∃ e,e≠0∧nY N w s=some ([],e)):=by
  have hN':2 ^ 64≤N:=by omega
  obtain ⟨b1,p1,q1,r1,t1⟩:=Yv hN' hw ok h8 hl hf
  obtain ⟨b2,p2,q2,r2,t2⟩:=TU hN' hw ok h8 hl hf
  obtain ⟨b3,p3,q3,r3,t3⟩:=Yw hN' hw ok h8 hl hf
  obtain ⟨b4,p4,q4,r4,t4⟩:=Wi hN' hw ok h8 hl hf
  obtain ⟨b5,p5,q5,r5,t5⟩:=ZK hN' hw ok h8 hl hf
  have hiff:=Ou hN hw ok h8 hl hf
  rw [← t1,← t2,← t3,← t4,← t5] at hiff
  unfold nY qV
  rw [hs,bS]
  simp only []
  rw [show ax .neq (0:Int) 0=false from rfl,iP,Ot hN' p1 p2 p3 p4 p5 ⟨by omega,by omega,by omega,by omega,by omega⟩,bS]
  simp only []
  rw [show ax .neq (0:Int) 0=false from rfl,iP,jE]
  obtain ⟨b,hb⟩:∃ b,b=(((b1 ++ b2) ++ b3) ++ b4) ++ b5:=⟨_,rfl⟩
  rw [← hb]
  by_cases h2:b=[]
  · left
    have hz:=h2
    rw [hb] at hz
    simp only [List.append_eq_nil_iff] at hz
    refine ⟨⟨hl,hf,hiff.2 ⟨hz.1.1.1.1,hz.1.1.1.2,hz.1.1.2,hz.1.2,hz.2⟩⟩,?_⟩
    rw [h2,dF (by simp),iP,bS]
  · right
    have h0:0<b.length:=List.length_pos_iff.2 h2
    refine ⟨fun hp=>h2 ?_,?_⟩
    · obtain ⟨e1,e2,e3,e4,e5⟩:=hiff.1 hp.valid
      rw [hb,e1,e2,e3,e4,e5];rfl
    · rw [dT (by omega), jm, show idx b 0 = some b[0] from jX (i := 0) h0, bS]
      refine ⟨b[0].Reason,?_,rfl⟩
      have hm:b[0] ∈ b:=List.getElem_mem h0
      generalize b[0]=y at hm
      rw [hb] at hm
      simp only [List.mem_append] at hm
      rcases hm with (((hm | hm) | hm) | hm) | hm
      · exact r1 _ hm
      · exact r2 _ hm
      · exact r3 _ hm
      · exact r4 _ hm
      · exact r5 _ hm
theorem PS {s:List GSlot} {l:List ah} (hs:iW N w s=some (l,0)) (hp:yG w l):lG N w s=some 0∧kU N w s=some (wS w l,0)∧tN N w s=some (DR w l,0):=by
 have hN':2 ^ 64≤N:=by omega
 rcases U2 hN hw ok h8 hs hp.wf hp.full with ⟨_,h⟩ | ⟨h,_⟩
 ·unfold lG kU tN
  rw [h,bS]
  simp only []
  rw [bS,bS]
  simp only []
  rw [show ax .neq (0:Int) 0=false from rfl,iP,iP,TW hN' hw ok h8 hp.wf,U3 hN' hw ok h8 hp.wf]
  refine ⟨?_,?_,?_⟩ <;> first | trivial | rfl
 ·exact absurd hp h
theorem Yq {s:List GSlot} {l:List ah} (hs:iW N w s=some (l,0)) (hl:(dU w).Wf l) (hf:(dU w).Full l):∃ e,lG N w s=some e∧(e=0↔yG w l):=by
 unfold lG
 rcases U2 hN hw ok h8 hs hl hf with ⟨h1,h⟩ | ⟨h1,e,h2,h⟩
 ·rw [h];exact ⟨0,rfl,fun _=>h1,fun _=>rfl⟩
 ·rw [h];exact ⟨e,rfl,fun x=>absurd x h2,fun x=>absurd x h1⟩
theorem TY {l:List ah} (hl:(dU w).Wf l) (hf:(dU w).Full l):lX N w l=some (outW w l):=by
 have _:=hw
 have _:=ok
 have hll:l.length=w.Items.length:=hl.len
 have hlim:lim ≥ 1000000:=by decide
 unfold lX
 have:=GZ (f:=pG N w l) (N:=N) (List.range w.Items.length) (fun i=>(⟨w.Items[i]!.Name,l[i]!.mode,l[i]!.day⟩:GSlot)) (fun i hi acc ha=>by
  rw [List.length_range] at hi
  unfold pG
  simp only []
  rw [hll,aO,dT (by omega),jm,iV (by omega),bS,iV hi,bS,List.getElem_range,GX (by rw [List.length_singleton];omega),bS,kN (by omega)]) (fun acc=>by
  unfold pG
  simp only []
  rw [hll,List.length_range,aO,dF (by omega),iP]) (by rw [List.length_range];omega)
 rw [this];rfl
theorem Oo {l:List ah} (hl:(dU w).Wf l) (hf:(dU w).Full l):iW N w (outW w l)=some (l,0):=by
 have _:=h8
 have hN':2 ^ 64≤N:=by omega
 have hll:l.length=w.Items.length:=hl.len
 have hol:(outW w l).length=w.Items.length:=by unfold outW;simp
 have hat:∀ i,i<w.Items.length→(outW w l)[i]! = ⟨w.Items[i]!.Name,l[i]!.mode,l[i]!.day⟩:=fun i hi=>by
  rw [uD (by omega)];unfold outW;simp
 have hsc:SlC w (outW w l):=⟨hol,fun i hi=>by
  rw [hol] at hi
  have h1:=hl.on i hi (hf i hi)
  rw [hat i hi]
  refine ⟨i,hi,(ok.it i hi).2.1,⟨h1.m0,h1.m1⟩,⟨h1.d0,h1.d1⟩,fun j hj e=>?_⟩
  rw [hat j (by omega)] at e
  have e:w.Items[j]!.Name=w.Items[i]!.Name:=e
  have h2:=(ok.it j (by omega)).2.1
  rw [e,(ok.it i hi).2.1] at h2
  omega⟩
 obtain ⟨l',g1,g2,g3,g4⟩:=Rn hN' hw ok hsc
 rw [g1]
 have:l'=l:=EL (by rw [g2.len,hl.len]) fun i hi=>by
  rw [g2.len] at hi
  have hi':i<w.Items.length:=hi
  have h1:=g4 i (by omega) i (by rw [hat i hi'];exact (ok.it i hi').2.1)
  rw [h1,hat i hi']
  exact (Df rfl (hf i hi)).symm
 rw [this]
theorem Yr (h60:w.Last≤60):(∃ L,yG w L∧(∀ L',yG w L'→wS w L≤wS w L')∧qR N w=some (outW w L,0))∨((∀ L',¬ yG w L')∧qR N w=some ([],29)):=by
 have hN':2 ^ 64≤N:=by omega
 have hlim:lim ≥ 1000000:=by decide
 have Ua:mk (0:Int) (w.Items.length:Int) (w.Items.length:Int)=some (Z0 w):=by
  unfold mk
  rw [dT (by omega),dT (by omega),dT (by omega)];rfl
 have hr:G5 w false (Z0 w):=Wn hN' hw ok h8
 obtain ⟨v,u1,u2⟩:=PX hN hw ok h8 Kv UZ hr (U1 (w:=w)) (b:=1152921504606846976)
 have u1:iw N (xP w) (Z0 w) (P0 w) Wp (Z0 w) 1152921504606846976=some v:=u1
 have hnb:iK N w=some (some (xP w,Z0 w,P0 w),()):=G6 hN' hw ok h8
 unfold qR
 rw [Nl hN' hw ok h8 h60,bS,show ax .neq (0:Int) 0=false from rfl,iP,Ua,bS,hnb,bS]
 unfold AL
 simp only []
 unfold Wp at u1
 rw [u1,bS]
 rcases u2 with ⟨a1,a2,⟨L,a3,a4⟩,a5⟩ | ⟨a1,a2⟩
 ·left
  have hmb:=Np hN' hw ok h8 a3.wf (c:=false)
  obtain ⟨L1,f1,f2,f3⟩:=Nq hN hw ok h8 Kv UZ hr (U1 (w:=w)) (val:=v.1) (by omega) (by omega) ⟨L,a3,by omega⟩
  have f1:iT N (xP w) (Z0 w) (P0 w) Wp (Z0 w) v.1=some L1:=f1
  unfold Wp at f1
  refine ⟨L1,⟨f2.wf,f2.full,f2.valid⟩,fun L' hL'=>Int.le_trans f3 (a5 L' hL'.comp),?_⟩
  rw [a1,Bool.not_true,iP]
  simp only [bS]
  rw [f1,bS,TY hN hw ok h8 f2.wf f2.full];rfl
 ·right
  refine ⟨fun L' hL'=>?_,?_⟩
  ·have:=a2 L' hL'.comp
   have hmb:=Np hN' hw ok h8 hL'.wf (c:=false)
   omega
  ·rw [a1];rfl
theorem Nh (h60:w.Last≤60):(∃ L,yG w L∧(∀ L',yG w L'→DR w L≤DR w L')∧qU N w=some (outW w L,DR w L,0))∨((∀ L',¬ yG w L')∧qU N w=some ([],0,29)):=by
 have hN':2 ^ 64≤N:=by omega
 obtain ⟨r,hr1,hr⟩:=Rt hN' hw ok h8
 obtain ⟨v,u1,u2⟩:=PX hN hw ok h8 Kv UZ hr (U1 (w:=w)) (b:=1152921504606846976)
 have u1:iw N (xP w) (Z0 w) (P0 w) Ir r 1152921504606846976=some v:=u1
 have hnb:iK N w=some (some (xP w,Z0 w,P0 w),()):=G6 hN' hw ok h8
 unfold qU
 rw [Nl hN' hw ok h8 h60,bS,show ax .neq (0:Int) 0=false from rfl,iP,hr1,bS,hnb,bS]
 unfold AL
 simp only []
 unfold Ir at u1
 rw [u1,bS]
 rcases u2 with ⟨a1,a2,⟨L,a3,a4⟩,a5⟩ | ⟨a1,a2⟩
 ·left
  have hmb:=Np hN' hw ok h8 a3.wf (c:=true)
  obtain ⟨L1,f1,f2,f3⟩:=Nq hN hw ok h8 Kv UZ hr (U1 (w:=w)) (val:=v.1) (by omega) (by omega) ⟨L,a3,by omega⟩
  have f1:iT N (xP w) (Z0 w) (P0 w) Ir r v.1=some L1:=f1
  unfold Ir at f1
  have hpl:yG w L1:=⟨f2.wf,f2.full,f2.valid⟩
  have e1:=a5 L1 hpl.comp
  have e2:DR w L1≤v.1:=f3
  have e3:v.1≤DR w L1:=e1
  have e4:v.1=DR w L1:=Int.le_antisymm e3 e2
  refine ⟨L1,hpl,fun L' hL'=>Int.le_trans f3 (a5 L' hL'.comp),?_⟩
  rw [a1,Bool.not_true,iP]
  simp only [bS]
  rw [f1,bS,TY hN hw ok h8 f2.wf f2.full,bS,e4]
 ·right
  refine ⟨fun L' hL'=>?_,?_⟩
  ·have:=a2 L' hL'.comp
   have hmb:=Np hN' hw ok h8 hL'.wf (c:=true)
   omega
  ·rw [a1];rfl
end
end Go.KB
namespace Go.KB
set_option linter.unusedVariables false
set_option maxRecDepth 100000
theorem rev_eq {N:Nat} (hN:2 ^ 64≤N) {l:List Int} (hl:l.length≤1000):qf N l=some l.reverse:=by
  unfold qf
  rw [BU (n:=(l.length:Int) - 1) (by omega) (by omega)]
  have:=EM (f:=kP N) (I:=fun q=>∃ i:Nat,q.2.1=(i:Int)∧q.2.2=(l.length:Int) - 1 - (i:Int)∧2 * i≤l.length+1∧q.1.length=l.length∧∀ p,p<l.length→q.1[p]! = if p<i∨l.length - 1 - i<p then l[l.length - 1 - p]! else l[p]!) (μ:=fun q=>l.length - q.2.1.toNat) l.reverse (by
    rintro ⟨s,si,sj⟩ ⟨i,hi,hj,hle,hs,hp⟩
    simp only at hi hj hs hp
    subst hi
    subst hj
    by_cases hlt:(i:Int)<(l.length:Int) - 1 - (i:Int)
    · left
      obtain ⟨j,hj⟩:∃ j:Nat,(l.length:Int) - 1 - (i:Int)=(j:Int):=⟨l.length - 1 - i,by omega⟩
      refine ⟨((s.set i s[j]!).set j s[i]!,((i+1:Nat):Int),(j:Int) - 1),?_,⟨i+1,rfl,by simp only [];omega,by omega,by simpa using hs,fun p hpl=>?_⟩,by simp only [Int.toNat_natCast];omega⟩
      · unfold kP
        simp only []
        rw [hj,aO,dT (by omega),jm,iV (by omega),bS,iV (by omega),bS,bS,Int.toNat_natCast,Int.toNat_natCast,iV (by rw [List.length_set];omega),bS,kN (by omega),BU (n:=(j:Int) - 1) (by omega) (by omega)]
      · show ((s.set i s[j]!).set j s[i]!)[p]! = _
        rw [Ru (by rw [List.length_set];omega),Ru (by omega),hp i (by omega),hp j (by omega),hp p hpl]
        have hji:j=l.length - 1 - i:=by omega
        by_cases e1:j=p
        · subst e1
          rw [if_pos rfl,if_neg (by omega),if_pos (by omega)]
          congr 1;omega
        · rw [if_neg e1]
          by_cases e2:i=p
          · subst e2
            rw [if_pos rfl,if_neg (by omega),if_pos (by omega)]
            congr 1
          · rw [if_neg e2]
            by_cases e3:p<i∨l.length - 1 - i<p
            · rw [if_pos e3,if_pos (by omega)]
            · rw [if_neg e3,if_neg (by omega)]
    · right
      have:s=l.reverse:=List.ext_getElem (by simpa using hs) fun p h1 h2=>by
        have:=hp p (by omega)
        rw [uD h1] at this
        rw [this,List.getElem_reverse]
        by_cases e:p<i∨l.length - 1 - i<p
        · rw [if_pos e,uD (by omega)]
        · rw [if_neg e, uD (by omega)]
          congr 1;omega
      rw [← this]
      unfold kP
      simp only []
      rw [aO,dF hlt,iP]) N (l,0,(l.length:Int) - 1) ⟨0,rfl,by simp,by omega,rfl,fun p hp=>by rw [if_neg (by omega)]⟩ (by simp only [Int.toNat_zero];omega)
  rw [this];rfl
theorem Ju {α:Type} [Inhabited α] {l:List α} {i:Nat} (h:i<l.length):l[i]! ∈ l:=by rw [uD h];exact List.getElem_mem h
theorem Yy {l:List Int} (h:l.Nodup) {i j:Nat} (hi:i<l.length) (hj:j<l.length) (e:l[i]=l[j]):i=j:=by
 unfold List.Nodup at h
 rw [List.pairwise_iff_getElem] at h
 rcases Nat.lt_trichotomy i j with g | g | g
 ·exact absurd e (h i j hi hj g)
 ·exact g
 ·exact absurd e.symm (h j i hj hi g)
def Yz {α:Type} (f:α→Int) (l:List α) (a:Int):Int:=l.foldl (fun a x=>min a (f x)) a
theorem Ub {α:Type} {f:α→Int}:∀ {l:List α} {a:Int},Yz f l a≤a∧(∀ x ∈ l,Yz f l a≤f x)∧(Yz f l a=a∨∃ x ∈ l,Yz f l a=f x)
 | [],a=>⟨Int.le_refl _,fun x hx=>(by cases hx),.inl rfl⟩
 | y :: l,a=>by
  obtain ⟨h1,h2,h3⟩:=Ub (f:=f) (l:=l) (a:=min a (f y))
  have e:Yz f (y :: l) a=Yz f l (min a (f y)):=rfl
  rw [e]
  refine ⟨by omega,fun x hx=>?_,?_⟩
  ·rcases List.mem_cons.1 hx with rfl | hx
   ·omega
   ·exact h2 x hx
  ·rcases h3 with h | ⟨x,hx,h⟩
   ·by_cases g : a ≤ f y
    ·left;omega
    ·right;exact ⟨y,by simp,by omega⟩
   ·right;exact ⟨x,List.mem_cons_of_mem _ hx,h⟩
def KZ (w:GWork) (i:Nat):Int:=Yz (fun m:kJ=>m.iH) w.Items[i]!.Modes w.Items[i]!.Modes[0]!.iH
def Uc (w:GWork) (i:Nat):Int:=Yz (fun m:kJ=>m.iH * m.gB) w.Items[i]!.Modes (w.Items[i]!.Modes[0]!.iH * w.Items[i]!.Modes[0]!.gB)
theorem Ov {f g:Nat→Int}:∀ {n},(∀ i,i<n→f i=g i)→Jv f n=Jv g n
 | 0,_=>rfl
 | n+1,h=>by simp only [Jv];rw [Ov (fun i hi=>h i (by omega)),h n (by omega)]
theorem PY {f:Nat→Int}:∀ {n},Jv f n≤0∨∃ i,i<n∧Jv f n=f i
 | 0=>.inl (Int.le_refl _)
 | n+1=>by
  simp only [Jv]
  by_cases g:Jv f n≤f n
  ·exact .inr ⟨n,by omega,by omega⟩
  ·rcases PY (f:=f) (n:=n) with h | ⟨i,hi,h⟩
   ·left;omega
   ·exact .inr ⟨i,by omega,by omega⟩
section
variable {N:Nat} {w:GWork} (hN:2 ^ 64+9≤N) (hw:NH w) (ok:TT w) (h8:w.Items.length≤8)
include hN hw ok h8
theorem Dh {i:Nat} (hi:i<w.Items.length) {x:kJ} (hx:x ∈ w.Items[i]!.Modes):(1≤x.iH∧x.iH≤60)∧(0≤x.gB∧x.gB≤1000)∧x.gB≤(dU w).cap i:=by
 have _:=hN
 have _:=hw
 have _:=h8
 obtain ⟨j,hj,rfl⟩:=List.getElem_of_mem hx
 have:=(ok.it i hi).2.2.md j hj
 rwa [uD hj] at this
theorem Kw {i:Nat} (hi:i<w.Items.length):w.Items[i]!.Modes[0]! ∈ w.Items[i]!.Modes:=by
 have _:=hN
 have _:=hw
 have _:=h8
 have hm1:=(ok.it i hi).2.2.m1
 exact Ju (by omega)
theorem PZ {i:Nat} (hi:i<w.Items.length) {m:Int} (h0:0≤m) (h1:m<w.Items[i]!.Modes.length):w.Items[i]!.Modes[m.toNat]! ∈ w.Items[i]!.Modes:=by
 have _:=hN
 have _:=hw
 have _:=ok
 have _:=h8
 exact Ju (by omega)
theorem P5 {x:kJ} (h:(1≤x.iH∧x.iH≤60)∧(0≤x.gB∧x.gB≤1000)):0≤x.iH * x.gB∧x.iH * x.gB≤60000:=by
 have _:=hN
 have _:=hw
 have _:=ok
 have _:=h8
 obtain ⟨⟨a1,a2⟩,b1,b2⟩:=h
 have d1:0≤x.iH * x.gB:=Int.mul_nonneg (by omega) b1
 have d2:x.iH * x.gB≤60 * 1000:=Int.mul_le_mul a2 b2 b1 (by omega)
 omega
theorem ld_bd {i:Nat} (hi:i<w.Items.length):(1≤KZ w i∧KZ w i≤60)∧∀ x ∈ w.Items[i]!.Modes,KZ w i≤x.iH:=by
 obtain ⟨h1,h2,h3⟩:=Ub (f:=fun m:kJ=>m.iH) (l:=w.Items[i]!.Modes) (a:=w.Items[i]!.Modes[0]!.iH)
 have h0:=Dh hN hw ok h8 hi (Kw hN hw ok h8 hi)
 refine ⟨?_,h2⟩
 unfold KZ
 rcases h3 with h | ⟨x,hx,h⟩
 ·omega
 ·have:=Dh hN hw ok h8 hi hx
  omega
theorem lk_bd {i:Nat} (hi:i<w.Items.length):(0≤Uc w i∧Uc w i≤60000)∧(∀ x ∈ w.Items[i]!.Modes,Uc w i≤x.iH * x.gB)∧∃ x ∈ w.Items[i]!.Modes,Uc w i=x.iH * x.gB:=by
 obtain ⟨h1,h2,h3⟩:=Ub (f:=fun m:kJ=>m.iH * m.gB) (l:=w.Items[i]!.Modes) (a:=w.Items[i]!.Modes[0]!.iH * w.Items[i]!.Modes[0]!.gB)
 have hz:=Kw hN hw ok h8 hi
 have hat:∃ x ∈ w.Items[i]!.Modes,Uc w i=x.iH * x.gB:=by
  rcases h3 with h | ⟨x,hx,h⟩
  ·exact ⟨_,hz,h⟩
  ·exact ⟨x,hx,h⟩
 refine ⟨?_,h2,hat⟩
 obtain ⟨x,hx,e⟩:=hat
 have h0:=Dh hN hw ok h8 hi hx
 have:=P5 hN hw ok h8 ⟨h0.1,h0.2.1⟩
 omega
theorem Nr {i:Nat} (hi:i<w.Items.length):rP N w.Items[i]! = some (KZ w i,Uc w i):=by
 have hm1:=(ok.it i hi).2.2.m1
 have hm3:=(ok.it i hi).2.2.m3
 have hz:=Dh hN hw ok h8 hi (Kw hN hw ok h8 hi)
 have hzp:=P5 hN hw ok h8 ⟨hz.1,hz.2.1⟩
 unfold rP
 rw [show idx w.Items[i]!.Modes 0=some w.Items[i]!.Modes[0]! from iV (i:=0) (by omega)]
 simp only [bS]
 rw [BU (n:=w.Items[i]!.Modes[0]!.iH * w.Items[i]!.Modes[0]!.gB) (by omega) (by omega)]
 have:=tu (f:=pq N w.Items[i]!) (n:=w.Items[i]!.Modes.length) (N:=N) (fun k=>(Yz (fun m:kJ=>m.iH) (w.Items[i]!.Modes.take k) w.Items[i]!.Modes[0]!.iH,Yz (fun m:kJ=>m.iH * m.gB) (w.Items[i]!.Modes.take k) (w.Items[i]!.Modes[0]!.iH * w.Items[i]!.Modes[0]!.gB),(k:Int))) (KZ w i,Uc w i) (fun k hk=>by
  have hx:=Dh hN hw ok h8 hi (List.getElem_mem hk)
  have hxp:=P5 hN hw ok h8 ⟨hx.1,hx.2.1⟩
  unfold pq
  simp only []
  rw [aO,dT (by omega),jm,jX hk,bS,BU (n:=w.Items[i]!.Modes[k].iH * w.Items[i]!.Modes[k].gB) (by omega) (by omega),kN (by omega),List.take_succ_eq_append_getElem hk]
  unfold Yz
  rw [List.foldl_append,List.foldl_append];rfl) (by
  unfold pq
  simp only []
  rw [aO,dF (by omega),iP,List.take_length];rfl) (by omega)
 have this:bM (pq N w.Items[i]!) N (w.Items[i]!.Modes[0]!.iH,w.Items[i]!.Modes[0]!.iH * w.Items[i]!.Modes[0]!.gB,0)=_:=this
 rw [this];rfl
def KP (w:GWork) (s:List Int) (i:Nat):Int:=Jv (fun k=>if (dU w).pri k i=true then s[k]! else 0) w.Items.length
structure ChOk (w:GWork) (s:List Int):Prop where
 len:s.length=w.Items.length
 bd:∀ i,i<w.Items.length→0≤s[i]! ∧ s[i]! ≤ 500
 eq:∀ i,i<w.Items.length→s[i]! = KZ w i+KP w s i
 Rw:∀ L,yG w L→∀ i,i<w.Items.length→L[i]!.day+s[i]! ≤ wS w L
theorem YA:∃ s,sN N w=some s∧ChOk w s:=by
 have hN':2 ^ 64≤N:=by omega
 have hpb:=BA ok h8
 have hlim:lim ≥ 1000000:=by decide
 obtain ⟨v,hv⟩:∃ v,v=(List.range w.Items.length).map (pJ w):=⟨_,rfl⟩
 have hvl:v.length=w.Items.length:=by rw [hv];simp
 have hva:∀ i,(h:i<v.length)→v[i]=pJ w i:=fun i h=>by subst hv;simp
 have Ua:mk (0:Int) (v.length:Int) (v.length:Int)=some (Z0 w):=by
  unfold mk
  rw [hvl,dT (by omega),dT (by omega),dT (by omega)];rfl
 obtain ⟨g,hg⟩:∃ g,g=Jw w w.Items.length []:=⟨_,rfl⟩
 have hog:G7 w g:=by rw [hg];exact U4 .nil
 have hgl:g.length=w.Items.length:=by
  have h1:=ok.ord
  have h2:=hog.len
  rw [← hg] at h1
  omega
 have hrl:g.reverse.length=w.Items.length:=by rw [List.length_reverse,hgl]
 have hrat:∀ p,(h:p<g.reverse.length)→∃ i:Nat,i<w.Items.length∧g.reverse[p]=(i:Int):=fun p h=>by
  have:=hog.bd _ (List.mem_reverse.1 (List.getElem_mem h))
  exact ⟨g.reverse[p].toNat,by omega,by omega⟩
 -- who comes after an item stands before it in the reversed order
 have hafter:∀ p q,(hp:p<g.reverse.length)→(hq:q<g.reverse.length)→g.reverse[q] ∈ pJ w (g.reverse[p]).toNat→p<q:=by
  intro p q hp hq hm
  rw [List.length_reverse] at hp hq
  rw [List.getElem_reverse,List.getElem_reverse] at hm
  have:=hog.top (g.length - 1 - p) (by omega) _ hm
  obtain ⟨k,hk,e⟩:=List.getElem_of_mem this
  rw [List.length_take] at hk
  rw [List.getElem_take] at e
  have h3:=Yy hog.nd _ _ e
  omega
 have hnd:∀ p q,(hp:p<g.reverse.length)→(hq:q<g.reverse.length)→g.reverse[p]=g.reverse[q]→p=q:=by
  intro p q hp hq e
  have:g.reverse.Nodup:=by
   have h:=hog.nd
   unfold List.Nodup at *
   rw [List.pairwise_reverse]
   exact h.imp fun hne=>Ne.symm hne
  exact Yy this hp hq e
 have hL1:∀ (s:List Int) (p:Int) (i:Nat),i<w.Items.length→s.length=w.Items.length→(∀ k,k<w.Items.length→0≤s[k]! ∧ s[k]! ≤ 500)→bM (kX N v (s,p) (i:Int)) N (0,0)=some (KP w s i):=by
  intro s p i hi hs hb
  have:=tu (f:=kX N v (s,p) (i:Int)) (n:=w.Items.length) (N:=N) (fun k=>(Jv (fun k=>if (dU w).pri k i=true then s[k]! else 0) k,(k:Int))) (KP w s i) (fun k hk=>by
   have hal:=hw.a k hk
   have hbl:(pJ w k).length<1000000:=by unfold pJ;rw [List.length_map];omega
   have c1:dI N (pJ w k) (i:Int)=some ((dU w).pri k i):=Ba hbl (by omega)
   unfold kX
   simp only []
   rw [aO,dT (by omega),jm,jX (by omega),bS,hva k (by omega),c1,bS,iV (by omega),bS,kN (by omega)]
   simp only [Jv]
   cases (dU w).pri k i with
   | true=>rw [jm,if_pos rfl]
   | false =>
    rw [iP,if_neg (by simp)]
    have:=AO (f:=fun k=>if (dU w).pri k i=true then s[k]! else 0) (n:=k)
    rw [show max (Jv (fun k=>if (dU w).pri k i=true then s[k]! else 0) k) 0=Jv (fun k=>if (dU w).pri k i=true then s[k]! else 0) k by omega]) (by
   unfold kX
   simp only []
   rw [aO,dF (by omega),iP];rfl) (by omega)
  exact this
 have hz:∀ i:Nat,(Z0 w)[i]! = 0:=UY
 obtain ⟨s,hs,h1,h2,h3,h4⟩:=ni (f:=ny N w v g.reverse) (I:=fun q=>∃ p:Nat,q.2=(p:Int)∧p≤w.Items.length∧q.1.length=w.Items.length∧(∀ i,i<w.Items.length→0≤q.1[i]! ∧ q.1[i]! ≤ 60 * p)∧(∀ k,k<p→∀ i:Nat,g.reverse[k]! = (i:Int)→q.1[i]! = KZ w i+KP w q.1 i)∧∀ L,yG w L→∀ i,i<w.Items.length→L[i]!.day+q.1[i]! ≤ wS w L) (μ:=fun q=>w.Items.length - q.2.toNat) (post:=fun s=>s.length=w.Items.length∧(∀ i,i<w.Items.length→0≤s[i]! ∧ s[i]! ≤ 500)∧(∀ k,k<w.Items.length→∀ i:Nat,g.reverse[k]! = (i:Int)→s[i]! = KZ w i+KP w s i)∧∀ L,yG w L→∀ i,i<w.Items.length→L[i]!.day+s[i]! ≤ wS w L) (by
  rintro ⟨s,sp⟩ ⟨p,hp,hpl,h1,h2,h3,h4⟩
  simp only at hp h1 h2 h3 h4
  subst hp
  by_cases hlt:p<w.Items.length
  ·left
   obtain ⟨i,hi,e⟩:=hrat p (by omega)
   have hld:=ld_bd hN hw ok h8 hi
   have hnx:0≤KP w s i∧KP w s i≤60 * p:=⟨AO,Ja (by omega) fun k hk=>by
    have:=h2 k hk
    split
    ·omega
    ·omega⟩
   have hl1:=hL1 s (p:Int) i hi h1 (fun k hk=>by have:=h2 k hk;omega)
   have hset:∀ k,k<w.Items.length→(s.set i (KZ w i+KP w s i))[k]! = if i=k then KZ w i+KP w s i else s[k]!:=fun k hk=>Ru (by omega)
   -- the chains of the items that are done do not change
   have hsame:∀ k,k≤p→∀ j:Nat,g.reverse[k]! = (j:Int)→KP w (s.set i (KZ w i+KP w s i)) j=KP w s j:=by
    intro k hk j hj
    refine Ov fun x hx=>?_
    by_cases hpr:(dU w).pri x j=true
    ·rw [if_pos hpr,if_pos hpr,hset x hx,if_neg]
     intro ex
     subst ex
     rw [uD (by omega)] at hj
     have:=hafter p k (by omega) (by omega) (by
      rw [e,Int.toNat_natCast,hj]
      exact List.contains_iff_mem.1 hpr)
     omega
    ·rw [if_neg hpr,if_neg hpr]
   refine ⟨(s.set i (KZ w i+KP w s i),((p+1:Nat):Int)),?_,⟨p+1,rfl,by omega,by simpa using h1,fun k hk=>?_,fun k hk j hj=>?_,fun L hL k hk=>?_⟩,?_⟩
   ·unfold ny
    simp only []
    rw [hrl,aO,dT (by omega),jm,jX (by omega),bS,e,hl1,bS,iV hi,bS,Nr hN hw ok h8 hi,bS]
    simp only []
    rw [iV (by omega),bS,Int.toNat_natCast,BU (n:=KZ w i+KP w s i) (by omega) (by omega),kN (by omega)]
   ·show 0≤(s.set i (KZ w i+KP w s i))[k]! ∧ (s.set i (KZ w i+KP w s i))[k]! ≤ 60 * ((p+1:Nat):Int)
    rw [hset k hk]
    have:=h2 k hk
    split
    ·omega
    ·omega
   ·show (s.set i (KZ w i+KP w s i))[j]! = KZ w j+KP w (s.set i (KZ w i+KP w s i)) j
    rw [hsame k (by omega) j hj]
    obtain ⟨j',hj',ej⟩:=hrat k (by omega)
    have hjl:j<w.Items.length:=by
     rw [uD (by omega),ej] at hj;omega
    rw [hset j hjl]
    by_cases ek:i=j
    ·subst ek;rw [if_pos rfl]
    ·rw [if_neg ek]
     refine h3 k ?_ j hj
     by_cases ekp:k=p
     ·subst ekp
      rw [uD (by omega),e] at hj
      omega
     ·omega
   ·show L[k]!.day+(s.set i (KZ w i+KP w s i))[k]! ≤ wS w L
    rw [hset k hk]
    by_cases ek:i=k
    ·subst ek
     rw [if_pos rfl]
     have hon:=hL.full i hi
     have hso:=hL.wf.on i hi hon
     have hm1:L[i]!.mode<(w.Items[i]!.Modes.length:Int):=hso.m1
     have hdl:=hld.2 _ (PZ hN hw ok h8 hi hso.m0 hm1)
     have hen:(dU w).en i L[i]! = L[i]!.day+w.Items[i]!.Modes[L[i]!.mode.toNat]!.iH:=rfl
     have hed:(dU w).en i L[i]! ≤ wS w L:=by
      have:=Ky (f:=fun i=>if L[i]!.on=true then (dU w).en i L[i]! else 0) hi
      rwa [if_pos hon] at this
     rcases PY (f:=fun k=>if (dU w).pri k i=true then s[k]! else 0) (n:=w.Items.length) with h | ⟨x,hx,h⟩
     ·have h:KP w s i≤0:=h
      omega
     ·have h:KP w s i=if (dU w).pri x i=true then s[x]! else 0:=h
      by_cases hpr:(dU w).pri x i=true
      ·rw [if_pos hpr] at h
       have hxi:i≠x:=fun e=>by subst e;rw [hpb.irr i hi] at hpr;cases hpr
       have h5:=((hL.valid x hx (hL.full x hx)).pair i hi hxi hon).1 hpr
       have h6:=h4 L hL x hx
       omega
      ·rw [if_neg hpr] at h;omega
    ·rw [if_neg ek];exact h4 L hL k hk
   ·show w.Items.length - ((p+1:Nat):Int).toNat<w.Items.length - ((p:Nat):Int).toNat
    simp only [Int.toNat_natCast];omega
  ·right
   have:p=w.Items.length:=by omega
   subst this
   refine ⟨s,?_,h1,fun i hi=>by have:=h2 i hi;omega,h3,h4⟩
   unfold ny
   simp only []
   rw [hrl,aO,dF (by omega),iP]) N (Z0 w,0) ⟨0,rfl,Nat.zero_le _,Kv,fun i _=>by simp only [];rw [hz];omega,fun k hk=>absurd hk (Nat.not_lt_zero _),fun L hL i hi=>by
   simp only []
   rw [hz]
   have hon:=hL.full i hi
   have hso:=hL.wf.on i hi hon
   have hd:=(hpb.Rw i hi _ hso.m0 hso.m1).1
   have:=Ky (f:=fun i=>if L[i]!.on=true then (dU w).en i L[i]! else 0) hi
   rw [if_pos hon] at this
   have this:(dU w).en i L[i]! ≤ wS w L:=this
   unfold Pb.en at this
   omega⟩ (by simp only [];omega)
 unfold sN
 rw [EI hN' hw,bS,← hv,Ua,bS,Ns hN' hw,bS,← hg,rev_eq hN' (by omega),bS,hs]
 refine ⟨s,rfl,h1,h2,fun i hi=>?_,h4⟩
 have:(i:Int) ∈ g.reverse:=List.mem_reverse.2 (Ox hog.nd hog.bd (by omega) i hi)
 obtain ⟨k,hk,e⟩:=List.getElem_of_mem this
 exact h3 k (by omega) i (by rw [uD hk];exact e)
end
end Go.KB
namespace Go.KB
set_option linter.unusedVariables false
set_option maxRecDepth 100000
theorem U5 {N:Nat} {l:List Int} {s:Int} (hl:l.length<1000000) (hN:1000000≤N):iU N l s=some (DU (fun x=>decide (s=x)) l):=by
 unfold iU
 refine tC (fun i hi=>?_) ?_ (by omega)
 ·unfold iy
  rw [aO,dT (by omega),jm,jX hi,bS,yP,kN (by omega)]
 ·unfold iy
  rw [aO,dF (by omega),iP]
theorem ZM {N:Nat} {l:List Int} {s:Int} (hl:l.length<1000000) (hN:1000000≤N):iF N s l=some (DU (fun x=>decide (x=s)) l):=by
 unfold iF
 refine tC (fun i hi=>?_) ?_ (by omega)
 ·unfold ja uq
  rw [aO,dT (by omega),jm,jX hi,bS,yP,bS,kN (by omega)]
 ·unfold ja
  rw [aO,dF (by omega),iP]
theorem Oy {f : Nat → Nat → Int} {n : Nat} : ∀ {m : Nat}, lC (fun d => lC (fun k => f k d) n) m = lC (fun k => lC (fun d => f k d) m) n
  | 0=>by simp only [lC];rw [EK fun i _=>rfl]
  | m+1=>by
    simp only [lC]
    rw [Oy,← Nu]
theorem U6 {a e : Nat} {c : Int} : ∀ {m : Nat}, lC (fun d => if a ≤ d ∧ d < e then c else 0) m = ((min m e - min m a : Nat) : Int) * c
  | 0=>by simp [lC]
  | m+1=>by
    simp only [lC]
    rw [U6]
    by_cases h:a≤m∧m<e
    · rw [if_pos h,show min (m+1) e - min (m+1) a=(min m e - min m a)+1 by omega,Int.natCast_add,Int.add_mul];simp
    · rw [if_neg h,show min (m+1) e - min (m+1) a=min m e - min m a by omega,Int.add_zero]
section
variable {N:Nat} {w:GWork} (hN:2 ^ 64+9≤N) (hw:NH w) (ok:TT w) (h8:w.Items.length≤8)
include hN hw ok h8
theorem Ud:∃ b,uS N w=some b∧(0≤b.iH∧b.iH≤500)∧∀ L,yG w L→b.iH≤wS w L:=by
  have hN':2 ^ 64≤N:=by omega
  have hlim:lim ≥ 1000000:=by decide
  obtain ⟨s,hs,ch⟩:=YA hN hw ok h8
  have hsl:=ch.len
  obtain ⟨v,hv⟩:∃ v,v=(List.range w.Items.length).map (pJ w):=⟨_,rfl⟩
  have hvl:v.length=w.Items.length:=by rw [hv];simp
  have hva:∀ i,(h:i<v.length)→v[i]=pJ w i:=fun i h=>by subst hv;simp
  obtain ⟨D,hD⟩:∃ D,D=Jv (fun i=>s[i]!) w.Items.length:=⟨_,rfl⟩
  have hDb:0≤D∧D≤500:=by rw [hD];exact ⟨AO,Ja (by omega) fun i hi=>(ch.bd i hi).2⟩
  have hL3:=tu (f:=mF N s) (n:=w.Items.length) (N:=N) (fun k=>((⟨Jv (fun i=>s[i]!) k,[],[]⟩:dB),(k:Int))) (⟨D,[],[]⟩:dB) (fun k hk=>by
    unfold mF
    simp only []
    rw [hsl,aO,dT (by omega),jm,iV (by omega),bS,kN (by omega)];rfl) (by
    unfold mF
    simp only []
    rw [hsl,aO,dF (by omega),iP,hD]) (by omega)
  have hL3:bM (mF N s) N ((⟨0,[],[]⟩:dB),0)=_:=hL3
  -- the next item of the chain
  have hL1:∀ (st:dB×Int×Int) (vl:Int×Int) (left:Int),st.2.2 - vl.1=left→0≤left→left≤500→∃ o,((iF N left s).bind fun v15=>bM (kS N s v st vl) N v15)=some o∧((o = -1∧∀ k,k<w.Items.length→s[k]! ≠ left)∨∃ a:Nat,a<w.Items.length∧o=(a:Int)∧s[a]! = left):=by
    intro st vl left hleft hl0 hl1
    rw [ZM (by omega) (by omega),bS]
    refine ni (f:=kS N s v st vl) (I:=fun o=>(o = -1∧∀ k,k<w.Items.length→s[k]! ≠ left)∨∃ a:Nat,a<w.Items.length∧o=(a:Int)∧s[a]! = left) (μ:=fun o=>if o<0 then 0 else w.Items.length+1 - o.toNat) (post:=fun o=>(o = -1∧∀ k,k<w.Items.length→s[k]! ≠ left)∨∃ a:Nat,a<w.Items.length∧o=(a:Int)∧s[a]! = left) ?_ N _ ?_ (by split <;> omega)
    · rintro o (⟨rfl,h⟩ | ⟨a,ha,rfl,hsa⟩)
      · right
        refine ⟨-1,?_,.inl ⟨rfl,h⟩⟩
        unfold kS
        rw [vX,dF (by omega),iP,bS,iP,bS,Bool.false_and,iP]
      · have hal:=hw.a a ha
        have hbl:(pJ w a).length<1000000:=by unfold pJ;rw [List.length_map];omega
        have hsl1:WV s ((a+1:Nat):Int) (s.length:Int)=some (s.drop (a+1)):=by rw [Ue (by omega) (Nat.le_refl _),List.take_length]
        have hix:iU N (s.drop (a+1)) left=some (DU (fun x=>decide (left=x)) (s.drop (a+1))):=U5 (by rw [List.length_drop];omega) (by omega)
        have hstep:kS N s v st vl (a:Int)=bif (!(pJ w a).contains st.2.1) then (bif decide (DU (fun x=>decide (left=x)) (s.drop (a+1))<0) then (some (.inr (a:Int))) else (some (.inl (IntKind.i64.wrap ((a:Int)+(IntKind.i64.wrap (1+DU (fun x=>decide (left=x)) (s.drop (a+1))))))))) else some (.inr (a:Int)):=by
          unfold kS
          rw [vX,dT (by omega),jm,jX (by omega),bS,hva a (by omega),jm,Ba hbl (by omega),bS,Bool.true_and,kN (by omega),hsl1,bS,hleft,BU (n:=left) (by omega) (by omega),hix,bS,aO]
        cases hc:(pJ w a).contains st.2.1 with
        | true =>
          rw [hc,Bool.not_true,iP] at hstep
          exact .inr ⟨_,hstep,.inr ⟨a,ha,rfl,hsa⟩⟩
        | false =>
          rw [hc,Bool.not_false,jm] at hstep
          rcases Bc (g:=fun x=>decide (left=x)) (l:=s.drop (a+1)) with ⟨e1,_⟩ | ⟨r,hr1,e1,e2,_⟩
          · rw [e1, dT (by omega), jm] at hstep
            exact .inr ⟨_,hstep,.inr ⟨a,ha,rfl,hsa⟩⟩
          · rw [List.length_drop] at hr1
            rw [e1,dF (by omega),iP,BU (n:=1+(r:Int)) (by omega) (by omega),BU (by omega) (by omega)] at hstep
            refine .inl ⟨_,hstep,.inr ⟨a+1+r,by omega,by omega,?_⟩,?_⟩
            · rw [List.getElem_drop,decide_eq_true_eq] at e2
              rw [uD (by omega)];exact e2.symm
            · rw [if_neg (by omega),if_neg (by omega)];omega
    · rcases Bc (g := fun x => decide (x = left)) (l := s) with ⟨e1, e2⟩ | ⟨r, hr1, e1, e2, _⟩
      · refine .inl ⟨e1, fun k hk => ?_⟩
        have:=e2 s[k]! (Ju (by omega))
        simpa using this
      · rw [decide_eq_true_eq] at e2
        exact .inr ⟨r,by omega,e1,by rw [uD hr1];exact e2⟩
  obtain ⟨o,ho,hod⟩:=ni (f:=pM N w s v) (I:=fun q=>q.1.iH=D∧(0≤q.2.2∧(q.1.Chain.length:Int)+q.2.2≤D)∧(0<q.2.2→∃ a:Nat,a<w.Items.length∧q.2.1=(a:Int)∧s[a]! = q.2.2)) (μ:=fun q=>q.2.2.toNat) (post:=fun o=>o.1.iH=D) (by
    rintro ⟨b,at',left⟩ ⟨h1,h2,h3⟩
    simp only at h1 h2 h3
    by_cases hlt:0<left
    · left
      obtain ⟨a,ha,rfl,hsa⟩:=h3 hlt
      have hld:=ld_bd hN hw ok h8 ha
      have heq:=ch.eq a ha
      have hnx:0≤KP w s a:=AO
      have hl:left - KZ w a=KP w s a:=by omega
      obtain ⟨o,ho,hc⟩:=hL1 (b,(a:Int),left) (KZ w a,Uc w a) (left - KZ w a) rfl (by omega) (by omega)
      obtain ⟨v15,g1,g2⟩:=Option.bind_eq_some_iff.1 ho
      refine ⟨({ b with Chain:=b.Chain ++ [w.Items[a]!.Name] },o,left - KZ w a),?_,⟨h1,⟨by simp only [];omega,by simp only [List.length_append,List.length_singleton];omega⟩,fun hp=>?_⟩,by simp only [];omega⟩
      · unfold pM
        simp only []
        rw [jE,dT hlt,jm,iV ha,bS,GX (by rw [List.length_singleton];omega),bS,bS,Nr hN hw ok h8 ha,bS]
        simp only []
        rw [BU (n:=left - KZ w a) (by omega) (by omega),g1,bS,g2,bS]
      · simp only [] at hp
        rcases hc with ⟨e1,e2⟩ | ⟨a',e1,e2,e3⟩
        · exfalso
          rcases PY (f:=fun k=>if (dU w).pri k a=true then s[k]! else 0) (n:=w.Items.length) with h | ⟨x,hx,h⟩
          · have h:KP w s a≤0:=h
            omega
          · have h:KP w s a=if (dU w).pri x a=true then s[x]! else 0:=h
            by_cases hpr:(dU w).pri x a=true
            · rw [if_pos hpr] at h
              exact e2 x hx (by omega)
            · rw [if_neg hpr] at h;omega
        · exact ⟨a',e1,e2,e3⟩
    · right
      refine ⟨(b,left),?_,h1⟩
      unfold pM
      simp only []
      rw [jE,dF hlt,iP]) N ((⟨D,[],[]⟩:dB),DU (fun x=>decide (D=x)) s,D) ⟨rfl,⟨hDb.1,by simp⟩,fun hp=>by
      simp only [] at hp
      rcases Bc (g:=fun x=>decide (D=x)) (l:=s) with ⟨e1,e2⟩ | ⟨r,hr1,e1,e2,_⟩
      · exfalso
        rcases PY (f:=fun i=>s[i]!) (n:=w.Items.length) with h | ⟨x,hx,h⟩
        · omega
        · have := e2 s[x]! (Ju (by omega))
          rw [decide_eq_false_iff_not] at this
          omega
      · rw [decide_eq_true_eq] at e2
        exact ⟨r,by omega,e1,by rw [uD hr1];exact e2.symm⟩⟩ (by simp only [];omega)
  unfold uS
  rw [hs,bS,EI hN' hw,bS,← hv,hL3,bS]
  simp only []
  rw [U5 (by omega) (by omega),bS,ho]
  refine ⟨o.1,rfl,by omega,fun L hL=>?_⟩
  rw [hod,hD]
  refine Ja AO fun i hi=>?_
  have h1:=ch.Rw L hL i hi
  have h2:=(hL.wf.on i hi (hL.full i hi)).d0
  omega
theorem ZN {L:List ah} (hL:yG w L) {t:Nat} (ht:t<w.aY.length):lC (fun k=>if w.Items[k]!.iq=w.aY[t]!.Name then Uc w k else 0) w.Items.length≤wS w L * w.aY[t]!.gB:=by
 have hN':2 ^ 64≤N:=by omega
 have hpb:=BA ok h8
 obtain ⟨_,hcr,_⟩:=(Ou hN hw ok h8 hL.wf hL.full).1 hL.valid
 have hd0:0≤wS w L:=AO
 obtain ⟨D,hD⟩:∃ D:Nat,wS w L=(D:Int):=⟨(wS w L).toNat,by omega⟩
 have h1:lC (fun d=>(dU w).use L (d:Int) w.aY[t]!.Name) D≤(D:Int) * w.aY[t]!.gB:=DT fun d _=>hcr t ht _
 rw [hD]
 refine Int.le_trans ?_ h1
 have h2:lC (fun d=>(dU w).use L (d:Int) w.aY[t]!.Name) D=lC (fun k=>lC (fun d=>(dU w).EJ k L[k]! (d:Int) w.aY[t]!.Name) D) w.Items.length:=Oy (f:=fun k d=>(dU w).EJ k L[k]! (d:Int) w.aY[t]!.Name)
 rw [h2]
 refine FV fun k hk=>?_
 have hon:=hL.full k hk
 have hso:=hL.wf.on k hk hon
 by_cases htr:w.Items[k]!.iq=w.aY[t]!.Name
 ·rw [if_pos htr]
  have hm1:L[k]!.mode<(w.Items[k]!.Modes.length:Int):=hso.m1
  have hlk:=(lk_bd hN hw ok h8 hk).2.1 _ (PZ hN hw ok h8 hk hso.m0 hm1)
  have hmd:=Dh hN hw ok h8 hk (PZ hN hw ok h8 hk hso.m0 hm1)
  have hed:(dU w).en k L[k]! ≤ wS w L:=by
   have:=Ky (f:=fun i=>if L[i]!.on=true then (dU w).en i L[i]! else 0) hk
   rwa [if_pos hon] at this
  have hen:(dU w).en k L[k]! = L[k]!.day+w.Items[k]!.Modes[L[k]!.mode.toNat]!.iH:=rfl
  have hday:=hso.d0
  obtain ⟨a,ha⟩:∃ a:Nat,L[k]!.day=(a:Int):=⟨L[k]!.day.toNat,by omega⟩
  obtain ⟨e,he⟩:∃ e:Nat,(dU w).en k L[k]! = (e:Int):=⟨((dU w).en k L[k]!).toNat,by omega⟩
  have hcw:∀ d:Nat,d<D→(dU w).EJ k L[k]! (d:Int) w.aY[t]!.Name=if a≤d∧d<e then w.Items[k]!.Modes[L[k]!.mode.toNat]!.gB else 0:=fun d _=>by
   unfold Pb.EJ
   by_cases h:a≤d∧d<e
   ·rw [if_pos h,if_pos ⟨hon,htr,by omega,by omega⟩];rfl
   ·rw [if_neg h,if_neg fun x=>h ⟨by omega,by omega⟩]
  rw [Di hcw,U6,show ((min D e - min D a:Nat):Int)=w.Items[k]!.Modes[L[k]!.mode.toNat]!.iH by omega]
  exact hlk
 ·rw [if_neg htr]
  exact FU fun d _=>Pb.PW hpb hk (hL.wf.on k hk)
theorem Wq {t:Nat} (ht:t<w.aY.length):∃ b,rE N w w.aY[t]! = some b∧∀ L,yG w L→b≤wS w L:=by
  have hlk:=fun k (hk:k<w.Items.length)=>lk_bd hN hw ok h8 hk
  have hb:∀ k,k≤w.Items.length→0≤lC (fun k=>if w.Items[k]!.iq=w.aY[t]!.Name then Uc w k else 0) k∧lC (fun k=>if w.Items[k]!.iq=w.aY[t]!.Name then Uc w k else 0) k≤k * 60000:=fun k hk=>by
    refine ⟨FU fun i hi=>?_,DT fun i hi=>?_⟩
    all_goals
      have:=(hlk i (by omega)).1
      split <;> omega
  have hcr:=(ok.tr t ht).2.2.1
  unfold rE
  have:=tu (f:=kK N w w.aY[t]!) (n:=w.Items.length) (N:=N) (fun k=>(lC (fun k=>if w.Items[k]!.iq=w.aY[t]!.Name then Uc w k else 0) k,(k:Int))) (lC (fun k=>if w.Items[k]!.iq=w.aY[t]!.Name then Uc w k else 0) w.Items.length) (fun k hk=>by
    have hbk:=hb k (by omega)
    have hl:=(hlk k hk).1
    unfold kK
    simp only []
    rw [aO,dT (by omega),jm,iV hk,bS,rH,kN (by omega)]
    simp only [lC]
    by_cases h:w.Items[k]!.iq=w.aY[t]!.Name
    · rw [dT h,jm,if_pos h,Nr hN hw ok h8 hk,bS,BU (by omega) (by omega)]
    · rw [dF h,iP,if_neg h,Int.add_zero]) (by
    unfold kK
    simp only []
    rw [aO,dF (by omega),iP]) (by omega)
  have this:bM (kK N w w.aY[t]!) N (0,0)=_:=this
  rw [this,bS,yP]
  have hbn:=hb w.Items.length (Nat.le_refl _)
  have hus:=fun L (hL:yG w L)=>ZN hN hw ok h8 hL ht
  have hcz:w.aY[t]!.gB=0→lC (fun k=>if w.Items[k]!.iq=w.aY[t]!.Name then Uc w k else 0) w.Items.length=0:=fun hz=>EK fun k hk=>by
    by_cases h:w.Items[k]!.iq=w.aY[t]!.Name
    · rw [if_pos h]
      obtain ⟨x,hx,e⟩:=(hlk k hk).2.2
      have hmm:=Dh hN hw ok h8 hk hx
      have e2:(dU w).cap k=w.aY[t]!.gB:=by
        show w.aY[(BV (JJ w) w.Items[k]!.iq).toNat]!.gB=_
        rw [h,(ok.tr t ht).2.1,Int.toNat_natCast]
      have:x.gB=0:=by omega
      rw [e,this,Int.mul_zero]
    · rw [if_neg h]
  obtain ⟨S,hS⟩:∃ S,S=lC (fun k=>if w.Items[k]!.iq=w.aY[t]!.Name then Uc w k else 0) w.Items.length:=⟨_,rfl⟩
  rw [← hS] at hbn hus hcz ⊢
  by_cases h0:S=0
  · rw [dT h0,jm]
    exact ⟨0,rfl,fun L hL=>AO⟩
  · have hc0 : w.aY[t]!.gB ≠ 0 := fun h => h0 (hcz h)
    have hge:0≤S+w.aY[t]!.gB - 1:=by omega
    have hdv:(S+w.aY[t]!.gB - 1).tdiv w.aY[t]!.gB=(S+w.aY[t]!.gB - 1) / w.aY[t]!.gB:=Int.tdiv_eq_ediv_of_nonneg hge
    have hd1:0≤(S+w.aY[t]!.gB - 1) / w.aY[t]!.gB:=Int.ediv_nonneg hge hcr.1
    have hd2:(S+w.aY[t]!.gB - 1) / w.aY[t]!.gB≤S+w.aY[t]!.gB - 1:=Int.ediv_le_self _ hge
    rw [dF h0,iP,BU (n:=S+w.aY[t]!.gB) (by omega) (by omega),BU (n:=S+w.aY[t]!.gB - 1) (by omega) (by omega)]
    unfold Zo
    rw [if_neg hc0,hdv,BU (by omega) (by omega),bS]
    refine ⟨_,rfl,fun L hL=>?_⟩
    have h1:=hus L hL
    have h2:(S+w.aY[t]!.gB - 1) / w.aY[t]!.gB<wS w L+1:=by
      refine Int.ediv_lt_of_lt_mul (by omega) ?_
      rw [Int.add_mul];omega
    omega
theorem Yt:∃ b,sH N w=some (b,0)∧∀ L,yG w L→b.iH≤wS w L:=by
 have hN':2 ^ 64≤N:=by omega
 have ht6:=ok.t6
 obtain ⟨b,hb1,_,hb2⟩:=Ud hN hw ok h8
 obtain ⟨o,ho,hp⟩:=ni (f:=kW N w) (I:=fun q=>∃ t:Nat,q.2=(t:Int)∧t≤w.aY.length∧∀ L,yG w L→q.1.iH≤wS w L) (μ:=fun q=>w.aY.length - q.2.toNat) (post:=fun o=>∀ L,yG w L→o.iH≤wS w L) (by
  rintro ⟨b,st⟩ ⟨t,ht,htl,h⟩
  simp only at ht h
  subst ht
  by_cases hlt:t<w.aY.length
  ·left
   obtain ⟨v,e1,e2⟩:=Wq hN hw ok h8 hlt
   have hstep:kW N w (b,(t:Int))=bif decide (b.iH<v) then some (.inl ((⟨v,[],w.aY[t]!.Name⟩:dB),((t+1:Nat):Int))) else some (.inl (b,((t+1:Nat):Int))):=by
    unfold kW
    simp only []
    rw [aO,dT (by omega),jm,iV hlt,bS,e1,bS,jE,kN (by omega)]
   have hdec:w.aY.length - ((t+1:Nat):Int).toNat<w.aY.length - ((t:Nat):Int).toNat:=by simp only [Int.toNat_natCast];omega
   cases hd:decide (b.iH<v) with
   | true =>
    rw [hd,jm] at hstep
    exact ⟨_,hstep,⟨t+1,rfl,by omega,e2⟩,hdec⟩
   | false =>
    rw [hd,iP] at hstep
    exact ⟨_,hstep,⟨t+1,rfl,by omega,h⟩,hdec⟩
  ·right
   refine ⟨b,?_,h⟩
   unfold kW
   simp only []
   rw [aO,dF (by omega),iP]) N (b,0) ⟨0,rfl,Nat.zero_le _,hb2⟩ (by simp only [];omega)
 unfold sH
 rw [P6 hN' hw ok,bS,show ax .neq (0:Int) 0=false from rfl,iP,hb1,bS,ho]
 exact ⟨o,rfl,hp⟩
end
end Go.KB
namespace Go.KB
set_option linter.unusedVariables false
set_option maxRecDepth 100000
def shW (c:Int) (i:Nat):Int:=(SG .i64 c (i:Int)).getD 0
theorem U7 {c:Int} {i:Nat}:SG .i64 c (i:Int)=some (shW c i):=by
 unfold shW SG
 rw [if_neg (by omega)];rfl
def Jy (c:Int) (i:Nat):Bool:=decide (JW .and .i64 (shW c i) 1=1)
def RY (w:GWork) (c now:Int):List Int:=(List.range w.Items.length).map fun i=>if Jy c i=true then now else 0
def Ws (w:GWork) (l:List ah) (c:Int):List ah:=(List.range w.Items.length).map fun i=>if Jy c i=true then S0 else l[i]!
theorem Uf {w:GWork} {c now:Int} {i:Nat} (h:i<w.Items.length):(RY w c now)[i]! = if Jy c i=true then now else 0:=by
 unfold RY
 rw [uD (by simpa using h)];simp
theorem Ug {w:GWork} {l:List ah} {c:Int} {i:Nat} (h:i<w.Items.length):(Ws w l c)[i]! = if Jy c i=true then S0 else l[i]!:=by
 unfold Ws
 rw [uD (by simpa using h)];simp
theorem P7 {w:GWork} {c now:Int}:(RY w c now).length=w.Items.length:=by unfold RY;simp
theorem U8 {w:GWork} {l:List ah} {c:Int}:(Ws w l c).length=w.Items.length:=by unfold Ws;simp
theorem kpL_wf {w:GWork} {l:List ah} {c:Int} (hl:(dU w).Wf l):(dU w).Wf (Ws w l c):=by
 refine ⟨U8,fun i hi=>?_,fun i hi=>?_⟩
 ·rw [Ug hi]
  split
  ·intro h;cases h
  ·exact hl.on i hi
 ·rw [Ug hi]
  split
  ·intro _;rfl
  ·exact hl.off i hi
theorem YB {l L:List Int} (h:l.length=L.length) (he:∀ i,i<l.length→l[i]! = L[i]!):l=L :=
 List.ext_getElem h fun i h1 h2=>by rw [← uD h1,← uD h2];exact he i h1
theorem and_lt {n:Int} (h0:0<n) (h1:n<8):0≤JW .and .i64 n (n - 1)∧JW .and .i64 n (n - 1)<n:=by
 have:n=1∨n=2∨n=3∨n=4∨n=5∨n=6∨n=7:=by omega
 rcases this with rfl | rfl | rfl | rfl | rfl | rfl | rfl <;> decide +kernel
theorem shl_ok {n:Nat} (h:n≤3):∃ v,Xn .i64 1 (n:Int)=some v∧0≤v∧v≤8:=by
 have:n=0∨n=1∨n=2∨n=3:=by omega
 rcases this with rfl | rfl | rfl | rfl
 ·exact ⟨1,by decide +kernel,by omega,by omega⟩
 ·exact ⟨2,by decide +kernel,by omega,by omega⟩
 ·exact ⟨4,by decide +kernel,by omega,by omega⟩
 ·exact ⟨8,by decide +kernel,by omega,by omega⟩
theorem ZO {N:Nat} (hN:2 ^ 64≤N) {c:Int} (h0:0≤c) (h1:c<8):∃ v,vI N c=some v:=by
 obtain ⟨o,ho,_⟩:=ni (f:=rM N) (I:=fun q=>0≤q.1∧q.1<8∧0≤q.2∧q.2+q.1≤8) (μ:=fun q=>q.1.toNat) (post:=fun _=>True) (by
  rintro ⟨n,k⟩ ⟨a,b,d,e⟩
  simp only at a b d e
  by_cases h:0<n
  ·left
   obtain ⟨g1,g2⟩:=and_lt h b
   refine ⟨(JW .and .i64 n (n - 1),k+1),?_,⟨g1,by simp only [];omega,by simp only [];omega,by simp only [];omega⟩,by simp only [];omega⟩
   unfold rM
   simp only []
   rw [jE,dT h,jm,BU (n:=n - 1) (by omega) (by omega),BU (n:=k+1) (by omega) (by omega)]
  ·right
   refine ⟨k,?_,trivial⟩
   unfold rM
   simp only []
   rw [jE,dF h,iP]) N (c,0) ⟨h0,h1,Int.le_refl _,by simp only [];omega⟩ (by simp only [];omega)
 unfold vI
 rw [ho];exact ⟨o,rfl⟩
theorem YC {N:Nat} (hN:2 ^ 64≤N) {a b:List ah} (ha:a.length≤1000):∃ v,rO N a b=some v:=by
  obtain ⟨φ,hφ⟩:∃ φ:ah→ah→Int,∀ x y,lD N x y=some (φ x y) :=
    ⟨fun x y=>bif ax .neq x.mode y.mode then IntKind.i64.wrap (x.mode - y.mode) else IntKind.i64.wrap (x.day - y.day),fun x y=>by
      unfold lD
      rw [Iu]⟩
  unfold rO dM
  obtain ⟨o,ho,_⟩:=ni (f:=bG N a b (fun y0 y1=>lD N y0 y1)) (I:=fun q=>∃ i:Nat,q=(i:Int)∧i≤a.length) (μ:=fun q=>a.length - q.toNat) (post:=fun _=>True) (by
    rintro q ⟨i,rfl,hi⟩
    by_cases hlt:i<a.length
    · have hst:bG N a b (fun y0 y1=>lD N y0 y1) (i:Int)=bif ax .geq (i:Int) (List.length b:Int) then some (.inr (.inr 1)) else ((idx b (i:Int)).bind fun v3=>bif ax .neq (φ a[i]! v3) 0 then some (.inr (.inr (φ a[i]! v3))) else some (.inl ((i+1:Nat):Int))):=by
        unfold bG
        rw [aO,dT (by omega),jm,iV hlt,bS,kN (by omega)]
        simp only [hφ,bS]
      by_cases h2:(b.length:Int)≤(i:Int)
      · rw [vX,dT h2,jm] at hst
        exact .inr ⟨_,hst,trivial⟩
      · rw [vX, dF h2, iP, iV (by omega), bS] at hst
        cases hc:ax .neq (φ a[i]! b[i]!) 0 with
        | true=>rw [hc,jm] at hst;exact .inr ⟨_,hst,trivial⟩
        | false=>rw [hc,iP] at hst;exact .inl ⟨_,hst,⟨i+1,rfl,by omega⟩,by simp only [Int.toNat_natCast];omega⟩
    · right
      refine ⟨.inl (),?_,trivial⟩
      unfold bG
      rw [aO,dF (by omega),iP]) N 0 ⟨0,rfl,Nat.zero_le _⟩ (by simp only [Int.toNat_zero];omega)
  rw [ho,bS]
  cases o with
  | inl _ =>
    rw [Sum.elim_inl,Iu,bS]
    exact ⟨_,rfl⟩
  | inr v=>exact ⟨v,rfl⟩
def mayW (w:GWork) (l:List ah) (c now:Int):Prop:=∀ i,i<w.Items.length→Jy c i=true→now≤l[i]!.day
structure G8 (N:Nat) (w:GWork) (l:List ah) (now:Int) (k:Nat) (c:Int):Prop where
 ones:vI N c=some (k:Int)
 may:mayW w l c now
 ex:∃ L,(dU w).A8 (D9 (RY w c now)) (Ws w l c) L
def D8 (N:Nat) (w:GWork) (l:List ah) (now:Int) (v:Int) (k:Nat):Prop:=(∃ c,0≤c∧c<v∧G8 N w l now k c)∨(k=0∧w.Items.length=0)
theorem D8.mono {N:Nat} {w:GWork} {l:List ah} {now v:Int} {k:Nat} (h0:0≤now) (h:D8 N w l (now+1) v k):D8 N w l now v k:=by
 rcases h with ⟨c,c0,c1,h1,h2,L,h3⟩ | h
 ·left
  refine ⟨c,c0,c1,h1,fun i hi hb=>by have:=h2 i hi hb;omega,L,h3.wf,h3.full,fun i hi hon=>?_,h3.sub⟩
  have hf:=h3.valid i hi hon
  have hi':i<w.Items.length:=hi
  refine ⟨⟨?_,hf.solo.2⟩,hf.pair,hf.use⟩
  have h4:(RY w c (now+1))[i]! ≤ L[i]!.day:=hf.solo.1
  show (RY w c now)[i]! ≤ L[i]!.day
  rw [Uf hi'] at h4 ⊢
  by_cases hb:Jy c i=true
  ·rw [if_pos hb] at h4 ⊢;omega
  ·rw [if_neg hb] at h4 ⊢;exact h4
 ·exact .inr h
section
variable {N:Nat} {w:GWork} (hN:2 ^ 64+9≤N) (hw:NH w) (ok:TT w) (h3:w.Items.length≤3) (h60:w.Last≤60)
variable {l:List ah} (hl:(dU w).Wf l) (hfl:(dU w).Full l)
include hN hw ok h3 hl
theorem may_eq {c now:Int}:∃ b,yA N l c now=some b∧(b=true↔mayW w l c now):=by
  have _:=hw
  have _:=ok
  have hll:l.length=w.Items.length:=hl.len
  unfold yA
  obtain ⟨o,ho,hc⟩:=Uh (f:=sU N l c now) (N:=N) (fun d=>!(Jy c d.toNat&&decide (l[d.toNat]!.day<now))) 0 (w.Items.length:Int) (by omega) (fun d h0 h1=>by
    obtain ⟨i,rfl⟩:∃ i:Nat,d=(i:Int):=⟨d.toNat,by omega⟩
    unfold sU
    rw [hll,aO,dT (by omega),jm,iV (by omega),bS,U7,bS,yP,aO,Int.toNat_natCast,BU (n:=(i:Int)+1) (by omega) (by omega)]
    show (bif Jy c i&&decide (l[i]!.day<now) then _ else _)=_
    cases Jy c i&&decide (l[i]!.day<now) <;> rfl) (by
    unfold sU
    rw [hll,aO,dF (by omega),iP]) (by omega)
  rw [ho,bS]
  have hiff:∀ i:Nat,(!(Jy c i&&decide (l[i]!.day<now)))=true↔(Jy c i=true→now≤l[i]!.day):=fun i=>by
    cases Jy c i with
    | false=>simp
    | true=>simp
  rcases hc with ⟨rfl,h⟩ | ⟨rfl,d,g1,g2,g3⟩
  · refine ⟨true, rfl, fun _ i hi => ?_, fun _ => rfl⟩
    have:=h (i:Int) (by omega) (by omega)
    rw [Int.toNat_natCast] at this
    exact (hiff i).1 this
  · refine ⟨false, rfl, fun x => (by cases x), fun x => ?_⟩
    obtain ⟨i,rfl⟩:∃ i:Nat,d=(i:Int):=⟨d.toNat,by omega⟩
    rw [Int.toNat_natCast] at g3
    rw [(hiff i).2 (x i (by omega))] at g3;cases g3
theorem ZP {c now:Int}:sV N w l c now=some (some (xP w,RY w c now,Ws w l c),()):=by
 have hN':2 ^ 64≤N:=by omega
 have hll:l.length=w.Items.length:=hl.len
 have hnb:iK N w=some (some (xP w,Z0 w,P0 w),()):=G6 hN' hw ok (by omega)
 unfold sV
 rw [hnb,bS]
 unfold AL
 simp only []
 have:=EM (f:=nM N l c now) (I:=fun q=>∃ i:Nat,q.1=(i:Int)∧i≤w.Items.length∧q.2.1.length=w.Items.length∧q.2.2.length=w.Items.length∧(∀ j,j<w.Items.length→q.2.1[j]! = if j<i then (RY w c now)[j]! else 0)∧∀ j,j<w.Items.length→q.2.2[j]! = if j<i then (Ws w l c)[j]! else S0) (μ:=fun q=>w.Items.length - q.1.toNat) (RY w c now,Ws w l c) (by
  rintro ⟨si,F,pl⟩ ⟨i,hi,hil,h1,h2,h4,h5⟩
  simp only at hi h1 h2 h4 h5
  subst hi
  by_cases hlt:i<w.Items.length
  ·left
   have hst:nM N l c now ((i:Int),F,pl)=bif Jy c i then some (.inl (((i+1:Nat):Int),F.set i now,pl)) else some (.inl (((i+1:Nat):Int),F,pl.set i l[i]!)):=by
    unfold nM
    simp only []
    rw [hll,aO,dT (by omega),jm,U7,bS,yP,iV (by omega),bS,iV (by omega),bS,iV (by omega),bS,Int.toNat_natCast,kN (by omega)]
    rfl
   have hdec:w.Items.length - ((i+1:Nat):Int).toNat<w.Items.length - ((i:Nat):Int).toNat:=by simp only [Int.toNat_natCast];omega
   have hF:=Uf (w:=w) (c:=c) (now:=now) hlt
   have hL:=Ug (w:=w) (l:=l) (c:=c) hlt
   cases hb:Jy c i with
   | true =>
    rw [hb,jm] at hst
    rw [hb,if_pos rfl] at hF hL
    refine ⟨_,hst,⟨i+1,rfl,by omega,by simpa using h1,h2,fun j hj=>?_,fun j hj=>?_⟩,hdec⟩
    ·show (F.set i now)[j]! = _
     rw [Ru (by omega),h4 j hj]
     by_cases e:i=j
     ·subst e;rw [if_pos rfl,if_pos (by omega),hF]
     ·rw [if_neg e]
      by_cases g:j<i
      ·rw [if_pos g,if_pos (by omega)]
      ·rw [if_neg g,if_neg (by omega)]
    ·show pl[j]! = _
     rw [h5 j hj]
     by_cases e:i=j
     ·subst e;rw [if_neg (by omega),if_pos (by omega),hL]
     ·by_cases g : j < i
      ·rw [if_pos g,if_pos (by omega)]
      ·rw [if_neg g,if_neg (by omega)]
   | false =>
    rw [hb,iP] at hst
    rw [hb,if_neg (by simp)] at hF hL
    refine ⟨_,hst,⟨i+1,rfl,by omega,h1,by simpa using h2,fun j hj=>?_,fun j hj=>?_⟩,hdec⟩
    ·show F[j]! = _
     rw [h4 j hj]
     by_cases e:i=j
     ·subst e;rw [if_neg (by omega),if_pos (by omega),hF]
     ·by_cases g : j < i
      ·rw [if_pos g,if_pos (by omega)]
      ·rw [if_neg g,if_neg (by omega)]
    ·show (pl.set i l[i]!)[j]! = _
     rw [setB (by omega),h5 j hj]
     by_cases e:i=j
     ·subst e;rw [if_pos rfl,if_pos (by omega),hL]
     ·rw [if_neg e]
      by_cases g:j<i
      ·rw [if_pos g,if_pos (by omega)]
      ·rw [if_neg g,if_neg (by omega)]
  ·right
   have:i=w.Items.length:=by omega
   subst this
   have e1:F=RY w c now:=YB (by rw [h1,P7]) fun j hj=>by rw [h4 j (by omega),if_pos (by omega)]
   have e2:pl=Ws w l c:=EL (by rw [h2,U8]) fun j hj=>by rw [h5 j (by omega),if_pos (by omega)]
   rw [← e1,← e2]
   unfold nM
   simp only []
   rw [hll,aO,dF (by omega),iP]) N (0,Z0 w,P0 w) ⟨0,rfl,Nat.zero_le _,Kv,by unfold P0;simp,fun j hj=>by rw [if_neg (Nat.not_lt_zero _)];exact UY j,fun j hj=>by rw [if_neg (Nat.not_lt_zero _)];exact U0 hj⟩ (by simp only [Int.toNat_zero];omega)
 rw [this];rfl
theorem ZQ {r:List Int} (hr:G5 w true r) {now:Int} (hn0:0≤now) (hn1:now≤400) {err:Int} {k:Nat} {v:Int} (hv0:0≤v) (hv:v≤8):∃ o,bM (iE N w now (l,err) r (k:Int) v) N (1152921504606846976,(none:(Option (List ah))),0)=some o∧((o=none∧∀ c,0≤c→c<v→¬ G8 N w l now k c)∨∃ L,o=some L∧(dU w).Wf L∧(dU w).Full L∧∃ c,0≤c∧c<v∧G8 N w l now k c):=by
  have hN':2 ^ 64≤N:=by omega
  have h8:w.Items.length≤8:=by omega
  refine ni (f:=iE N w now (l,err) r (k:Int) v) (I:=fun q=>(0≤q.2.2∧q.2.2≤v)∧((q.2.1=none∧q.1=1152921504606846976∧∀ c,0≤c→c<q.2.2→¬ G8 N w l now k c)∨∃ L,q.2.1=some L∧(0≤q.1∧q.1≤1400000000000)∧(dU w).Wf L∧(dU w).Full L∧∃ c,0≤c∧c<q.2.2∧G8 N w l now k c)) (μ:=fun q=>(v - q.2.2).toNat) (post:=fun o=>(o=none∧∀ c,0≤c→c<v→¬ G8 N w l now k c)∨∃ L,o=some L∧(dU w).Wf L∧(dU w).Full L∧∃ c,0≤c∧c<v∧G8 N w l now k c) ?_ N _ ⟨⟨Int.le_refl _,hv0⟩,.inl ⟨rfl,rfl,fun c h0 h1=>by simp only [] at h1;omega⟩⟩ (by simp only [];omega)
  rintro ⟨least,best,c⟩ ⟨⟨hc0,hcv⟩,hI⟩
  simp only at hc0 hcv hI
  by_cases hlt:c<v
  · obtain ⟨on, hon⟩ := ZO hN' hc0 (by omega)
    obtain ⟨mb,hm1,hm2⟩:=may_eq hN hw ok h3 hl (c:=c) (now:=now)
    have hlb:0≤least∧least≤1152921504606846976:=by
      rcases hI with ⟨_,h,_⟩ | ⟨_,_,h,_⟩ <;> omega
    -- the set is left out
    have YD:¬ G8 N w l now k c→((0≤c+1∧c+1≤v)∧((best=none∧least=1152921504606846976∧∀ c',0≤c'→c'<c+1→¬ G8 N w l now k c')∨∃ L,best=some L∧(0≤least∧least≤1400000000000)∧(dU w).Wf L∧(dU w).Full L∧∃ c',0≤c'∧c'<c+1∧G8 N w l now k c')):=by
      intro hnf
      refine ⟨⟨by omega,by omega⟩,?_⟩
      rcases hI with ⟨e1,e2,e3⟩ | ⟨L,e1,e2,e3,e4,c',e5,e6,e7⟩
      · refine .inl ⟨e1, e2, fun c' g0 g1 => ?_⟩
        by_cases e:c'=c
        · rw [e];exact hnf
        · exact e3 c' g0 (by omega)
      · exact .inr ⟨L,e1,e2,e3,e4,c',e5,by omega,e7⟩
    by_cases hk:on=(k:Int)
    · subst hk
      cases mb with
      | false =>
        have hst:iE N w now (l,err) r (k:Int) v (least,best,c)=some (.inl (least,best,c+1)):=by
          unfold iE
          simp only []
          rw [aO,dT hlt,jm,hon,bS,rC,dT rfl,Bool.not_true,Bool.not_false,jm,hm1,bS,Bool.not_false,Bool.or_true,jm,BU (n:=c+1) (by omega) (by omega)]
        exact .inl ⟨_,hst,YD (fun hf=>by have:=hm2.2 hf.may;cases this),by simp only [];omega⟩
      | true =>
        have hmay:=hm2.1 rfl
        have hkb:∀ i,i<w.Items.length→0≤(RY w c now)[i]! ∧ (RY w c now)[i]! ≤ 400:=fun i hi=>by
          rw [Uf hi];split <;> omega
        have hkw:=kpL_wf (c:=c) hl
        obtain ⟨u,u1,u2⟩:=PX hN hw ok h8 P7 hkb hr hkw (b:=least+1)
        have u1:iw N (xP w) (RY w c now) (Ws w l c) Ir r (least+1)=some u:=u1
        have hkp:=ZP hN hw ok h3 hl (c:=c) (now:=now)
        have V7:iE N w now (l,err) r (k:Int) v (least,best,c)=bif (!u.2) then some (.inl (least,best,c+1)) else ((iT N (xP w) (RY w c now) (Ws w l c) Ir r u.1).bind fun v13=>(bif (!(ax .lss u.1 least)) then (rO N v13 (Option.getD best [])) else some 0).bind fun v14=>bif ((ax .lss u.1 least)||(ax .lss v14 0)) then (some (.inl (u.1,(some v13),c+1))) else (some (.inl (least,best,c+1)))):=by
          unfold Ir at u1 ⊢
          unfold iE
          simp only []
          rw [aO,dT hlt,jm,hon,bS,rC,dT rfl,Bool.not_true,Bool.not_false,jm,hm1,bS,Bool.not_true,Bool.or_self,iP,hkp,bS]
          unfold AL
          simp only []
          rw [BU (n:=least+1) (by omega) (by omega),u1,bS,bS]
          simp only []
          rw [BU (n:=c+1) (by omega) (by omega)]
        rcases u2 with ⟨a1,a2,⟨L,a3,a4⟩,a5⟩ | ⟨a1,a2⟩
        · have hmb:=Np hN' hw ok h8 a3.wf (c:=true)
          obtain ⟨L1,f1,f2,f3⟩:=Nq hN hw ok h8 P7 hkb hr hkw (val:=u.1) (by omega) (by omega) ⟨L,a3,by omega⟩
          have f1:iT N (xP w) (RY w c now) (Ws w l c) Ir r u.1=some L1:=f1
          have hL1l:L1.length=w.Items.length:=f2.wf.len
          obtain ⟨cv,hcv⟩:=YC hN' (a:=L1) (b:=Option.getD best []) (by omega)
          have hfeas:G8 N w l now k c:=⟨hon,hmay,L,a3⟩
          rw [a1,Bool.not_true,iP,f1,bS,hcv] at V7
          have hst1:∃ b:Bool,(best=none→b=true)∧iE N w now (l,err) r (k:Int) v (least,best,c)=bif b then (some (.inl (u.1,(some L1),c+1))) else (some (.inl (least,best,c+1))):=by
            rw [V7]
            by_cases hul:u.1<least
            · refine ⟨true, fun _ => rfl, ?_⟩
              rw [aO,dT hul];rfl
            · refine ⟨decide (cv < 0), fun hb => ?_, ?_⟩
              · exfalso
                rcases hI with ⟨_,e2,_⟩ | ⟨L,e1,_⟩
                · omega
                · rw [hb] at e1;cases e1
              · rw [aO,dF hul,Bool.not_false,jm,bS,Bool.false_or,aO]
          obtain ⟨b,hb1,hb2⟩:=hst1
          cases b with
          | true =>
            rw [jm] at hb2
            exact .inl ⟨_,hb2,⟨⟨by simp only [];omega,by simp only [];omega⟩,.inr ⟨L1,rfl,by simp only [];omega,f2.wf,f2.full,c,hc0,by simp only [];omega,hfeas⟩⟩,by simp only [];omega⟩
          | false =>
            rw [iP] at hb2
            refine .inl ⟨_,hb2,⟨⟨by simp only [];omega,by simp only [];omega⟩,?_⟩,by simp only [];omega⟩
            rcases hI with ⟨e1,_,_⟩ | ⟨L,e1,e2,e3,e4,c',e5,e6,e7⟩
            · have:=hb1 e1;cases this
            · exact .inr ⟨L,e1,e2,e3,e4,c',e5,by simp only [];omega,e7⟩
        · rw [a1,Bool.not_false,jm] at V7
          refine .inl ⟨_,V7,?_,by simp only [];omega⟩
          rcases hI with ⟨e1,e2,e3⟩ | ⟨L,e1,e2,e3,e4,c',e5,e6,e7⟩
          · refine YD fun hf => ?_
            obtain ⟨L,hL⟩:=hf.ex
            have h5:=a2 L hL
            have hmb:=Np hN' hw ok h8 hL.wf (c:=true)
            omega
          · exact ⟨⟨by simp only [];omega,by simp only [];omega⟩,.inr ⟨L,e1,e2,e3,e4,c',e5,by simp only [];omega,e7⟩⟩
    · have hst:iE N w now (l,err) r (k:Int) v (least,best,c)=some (.inl (least,best,c+1)):=by
        unfold iE
        simp only []
        rw [aO,dT hlt,jm,hon,bS,rC,dF hk,Bool.not_false,Bool.not_true,iP,bS,Bool.true_or,jm,BU (n:=c+1) (by omega) (by omega)]
      exact .inl ⟨_,hst,YD (fun hf=>by
        have:=hf.ones
        rw [hon] at this
        exact hk (Option.some.inj this)),by simp only [];omega⟩
  · right
    have:c=v:=by omega
    subst this
    refine ⟨best,?_,?_⟩
    · unfold iE
      simp only []
      rw [aO,dF hlt,iP]
    · rcases hI with ⟨e1,_,e3⟩ | ⟨L,e1,_,e3,e4,e5⟩
      · exact .inl ⟨e1,e3⟩
      · exact .inr ⟨L,e1,e3,e4,e5⟩
include h60 hfl
theorem Oq {s:List GSlot} (hs:iW N w s=some (l,0)) {v:Int} (hsh:Xn .i64 1 (w.Items.length:Int)=some v) (hv0:0≤v) (hv:v≤8) {now:Int} (hn0:0≤now) (hn1:now≤400):(∃ x k,pF N w s now=some (x,((k:Nat):Int),0)∧k≤w.Items.length∧D8 N w l now v k∧∀ k',k'<k→¬ D8 N w l now v k')∨(pF N w s now=some ([],0,29)∧∀ k,k≤w.Items.length→¬ D8 N w l now v k):=by
  have _:=hfl
  have hN':2 ^ 64≤N:=by omega
  have h8:w.Items.length≤8:=by omega
  have hll:l.length=w.Items.length:=hl.len
  obtain ⟨r,hr1,hr⟩:=Rt hN' hw ok h8
  obtain ⟨o,ho,hc⟩:=ni (f:=nN N w now (l,0) r) (I:=fun q=>∃ k:Nat,q=(k:Int)∧k≤w.Items.length+1∧∀ k',k'<k→¬ D8 N w l now v k') (μ:=fun q=>w.Items.length+1 - q.toNat) (post:=fun o=>(∃ x k,o = .inr (x,((k:Nat):Int),0)∧k≤w.Items.length∧D8 N w l now v k∧∀ k',k'<k→¬ D8 N w l now v k')∨(o = .inl ()∧∀ k,k≤w.Items.length→¬ D8 N w l now v k)) (by
    rintro q ⟨k,rfl,hk,hno⟩
    by_cases hlt:k<w.Items.length+1
    · obtain ⟨b,hb,hcase⟩:=ZQ hN hw ok h3 hl hr hn0 hn1 (err:=0) (k:=k) hv0 hv
      have h0k:w.Items.length=0→k=0:=fun hz=>by
        by_cases e:k=0
        · exact e
        · exact absurd (.inr ⟨rfl,hz⟩) (hno 0 (by omega))
      have hbl:∀ L,b=some L→L.length=w.Items.length∧(dU w).Wf L∧(dU w).Full L:=fun L hL=>by
        rcases hcase with ⟨e,_⟩ | ⟨L',e,e1,e2,_⟩
        · rw [hL] at e;cases e
        · rw [hL] at e;cases e;exact ⟨e1.len,e1,e2⟩
      have hst:nN N w now (l,0) r (k:Int)=if b=none then (bif (false||((ax .eql (k:Int) 0)&&(ax .eql (List.length l:Int) 0))) then ((lX N w (Option.getD b [])).bind fun v21=>some (.inr (Sum.inr (v21,(k:Int),0)))) else (some (.inl ((k+1:Nat):Int)))) else ((lX N w (Option.getD b [])).bind fun v23=>some (.inr (Sum.inr (v23,(k:Int),0)))):=by
        unfold nN
        simp only []
        rw [hll,BU (n:=(w.Items.length:Int)+1) (by omega) (by omega),aO,dT (by omega),jm,hsh,bS,hb,bS,kN (by omega)]
        refine V8 fun hq=>?_
        have hz:w.Items.length=0:=by
          have:=(hbl [] hq).1
          simpa using this.symm
        have:=h0k hz
        subst this
        rw [hz];rfl
      have hdec:w.Items.length+1 - ((k+1:Nat):Int).toNat<w.Items.length+1 - ((k:Nat):Int).toNat:=by simp only [Int.toNat_natCast];omega
      rcases hcase with ⟨e,hnf⟩ | ⟨L,e,e1,e2,hfd⟩
      · rw [if_pos e,e,yP,yP,Bool.false_or,hll] at hst
        by_cases hz:w.Items.length=0
        · have hk0:=h0k hz
          subst hk0
          rw [dT (by omega),dT (by omega),Bool.and_self,jm] at hst
          have ho:lX N w (Option.getD (none:Option (List ah)) [])=some []:=by
            unfold lX
            obtain ⟨M,rfl⟩:∃ m,N=m+1:=⟨N - 1,by omega⟩
            have:pG (M+1) w (Option.getD (none:Option (List ah)) []) ([],0)=some (.inr []):=by
              unfold pG
              rfl
            simp only [bM,this];rfl
          rw [ho,bS] at hst
          exact .inr ⟨_,hst,.inl ⟨[],0,rfl,Nat.zero_le _,.inr ⟨rfl,hz⟩,fun k' hk'=>absurd hk' (Nat.not_lt_zero _)⟩⟩
        · rw [dF (p := (w.Items.length : Int) = 0) (by omega), Bool.and_false, iP] at hst
          refine .inl ⟨_,hst,⟨k+1,rfl,by omega,fun k' hk'=>?_⟩,hdec⟩
          by_cases e2:k'=k
          · subst e2
            rintro (⟨c,c0,c1,hc⟩ | ⟨_,h⟩)
            · exact hnf c c0 c1 hc
            · exact hz h
          · exact hno k' (by omega)
      · rw [if_neg (by rw [e]; simp), e] at hst
        rw [show Option.getD (some L) []=L from rfl,TY hN hw ok h8 e1 e2,bS] at hst
        exact .inr ⟨_,hst,.inl ⟨_,k,rfl,by omega,.inl hfd,hno⟩⟩
    · right
      have:k=w.Items.length+1:=by omega
      subst this
      refine ⟨.inl (),?_,.inr ⟨rfl,fun k hk=>hno k (by omega)⟩⟩
      unfold nN
      simp only []
      rw [hll,BU (n:=(w.Items.length:Int)+1) (by omega) (by omega),aO,dF (by omega),iP]) N 0 ⟨0,rfl,Nat.zero_le _,fun k' hk'=>absurd hk' (Nat.not_lt_zero _)⟩ (by simp only [Int.toNat_zero];omega)
  have hrun:pF N w s now=Sum.elim (fun l29=>some ([],0,29)) (fun Xr=>some (Xr.1,Xr.2.1,Xr.2.2)) o:=by
    unfold pF
    rw [hs,bS]
    simp only []
    rw [show ax .neq (0:Int) 0=false from rfl,iP,tH,wd,dT ⟨hn0,hn1⟩,bS,Bool.not_true,iP,Nl hN' hw ok h8 h60,bS,show ax .neq (0:Int) 0=false from rfl,iP,hr1,bS,ho,bS]
  rw [hrun]
  rcases hc with ⟨x,k,rfl,h⟩ | ⟨rfl,h⟩
  · exact .inl ⟨x,k,rfl,h⟩
  · exact .inr ⟨rfl,h⟩
end
end Go.KB
