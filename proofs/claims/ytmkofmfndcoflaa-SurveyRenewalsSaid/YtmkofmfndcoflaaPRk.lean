/- The renewals of a panel. No condition. -/
import Derived.Test.YtmkofmfndcoflaaPRg
namespace Go.KB
set_option linter.unusedVariables false
/- a cell lies in a rectangle; on each side of it lies a cell that is to be renewed -/
def Dn (C:Nat) (r:ak) (d:Nat):Prop:=r.X≤((d % C:Nat):Int)∧((d % C:Nat):Int)<r.X+r.W∧r.Y≤((d / C:Nat):Int)∧((d / C:Nat):Int)<r.Y+r.H
structure Bf (g:List Int) (C R:Nat) (z:ak):Prop where
  sl:∃ d,d<R * C∧g[d]! = 3∧Dn C z d∧((d % C:Nat):Int)=z.X
  sr:∃ d,d<R * C∧g[d]! = 3∧Dn C z d∧((d % C:Nat):Int)=z.X+z.W - 1
  st:∃ d,d<R * C∧g[d]! = 3∧Dn C z d∧((d / C:Nat):Int)=z.Y
  sw:∃ d,d<R * C∧g[d]! = 3∧Dn C z d∧((d / C:Nat):Int)=z.Y+z.H - 1
theorem sQ {C:Nat} {a b:ak} {d:Nat} (h:Dn C a d∨Dn C b d):Dn C (Ep a b) d:=by
  unfold Dn Ep at *
  simp only []
  omega
theorem Bf.ar {g:List Int} {C R:Nat} {a b:ak} (ha:Bf g C R a) (hb:Bf g C R b):Bf g C R (Ep a b):=by
  obtain ⟨⟨a1,p1,p2,p3,p4⟩,⟨a2,p5,p6,p7,p8⟩,⟨a3,p9,p10,p11,p12⟩,⟨a4,p13,p14,p15,p16⟩⟩:=ha
  obtain ⟨⟨b1,q1,q2,q3,q4⟩,⟨b2,q5,q6,q7,q8⟩,⟨b3,q9,q10,q11,q12⟩,⟨b4,q13,q14,q15,q16⟩⟩:=hb
  refine ⟨?_,?_,?_,?_⟩
  · by_cases h : a.X ≤ b.X
    · exact ⟨a1,p1,p2,sQ (.inl p3),by show _=min a.X b.X;omega⟩
    · exact ⟨b1,q1,q2,sQ (.inr q3),by show _=min a.X b.X;omega⟩
  · by_cases h : b.X + b.W ≤ a.X + a.W
    · exact ⟨a2,p5,p6,sQ (.inl p7),by show _=min a.X b.X+(max (a.X+a.W) (b.X+b.W) - min a.X b.X) - 1;omega⟩
    · exact ⟨b2,q5,q6,sQ (.inr q7),by show _=min a.X b.X+(max (a.X+a.W) (b.X+b.W) - min a.X b.X) - 1;omega⟩
  · by_cases h : a.Y ≤ b.Y
    · exact ⟨a3,p9,p10,sQ (.inl p11),by show _=min a.Y b.Y;omega⟩
    · exact ⟨b3,q9,q10,sQ (.inr q11),by show _=min a.Y b.Y;omega⟩
  · by_cases h : b.Y + b.H ≤ a.Y + a.H
    · exact ⟨a4,p13,p14,sQ (.inl p15),by show _=min a.Y b.Y+(max (a.Y+a.H) (b.Y+b.H) - min a.Y b.Y) - 1;omega⟩
    · exact ⟨b4,q13,q14,sQ (.inr q15),by show _=min a.Y b.Y+(max (a.Y+a.H) (b.Y+b.H) - min a.Y b.Y) - 1;omega⟩
/- the rectangles: in the panel, with such cells on all sides; they hold all cells that are to be renewed -/
structure Good (g:List Int) (C R:Nat) (l:List ak):Prop where
  inr:∀ r ∈ l,Dy (C:Int) (R:Int) r
  ti:∀ r ∈ l,Bf g C R r
  cov:∀ d,d<R * C→g[d]! = 3→∃ r ∈ l,Dn C r d
theorem Good.perm {g:List Int} {C R:Nat} {l l':List ak} (h:Good g C R l) (hp:l'.Perm l):Good g C R l' :=
  ⟨fun r hr=>h.inr r (hp.mem_iff.1 hr),fun r hr=>h.ti r (hp.mem_iff.1 hr),fun d hd hg=>by obtain ⟨r,hr,hi⟩:=h.cov d hd hg;exact ⟨r,hp.mem_iff.2 hr,hi⟩⟩
theorem Bg {l:List ak} {i j:Nat} {r:ak}:r ∈ others l i j↔∃ k,k<l.length∧k≠i∧k≠j∧l[k]! = r:=by
  unfold others
  rw [List.mem_map]
  constructor
  · rintro ⟨k,hk,rfl⟩
    obtain ⟨h1,h2⟩:=List.mem_filter.1 hk
    simp only [Bool.and_eq_true,Bool.not_eq_true',decide_eq_false_iff_not] at h2
    exact ⟨k,List.mem_range.1 h1,h2.1,h2.2,rfl⟩
  · rintro ⟨k,h1,h2,h3,rfl⟩
    exact ⟨k,List.mem_filter.2 ⟨List.mem_range.2 h1,by simp [h2,h3]⟩,rfl⟩
theorem Good.join {g:List Int} {C R:Nat} {l:List ak} (h:Good g C R l) {i j:Nat} (hij:i<j) (hj:j<l.length):Good g C R (kW l i j):=by
  have hi:i<l.length:=by omega
  have mi:l[i]! ∈ l:=by rw [xK hi];exact List.getElem_mem _
  have mj:l[j]! ∈ l:=by rw [xK hj];exact List.getElem_mem _
  have hm:∀ r,r ∈ others l i j ++ [Ep l[i]! l[j]!]→r ∈ l∨r=Ep l[i]! l[j]!:=fun r hr=>by
    rcases List.mem_append.1 hr with q | q
    · obtain ⟨k,k1,_,_,rfl⟩:=Bg.1 q
      exact .inl (by rw [xK k1];exact List.getElem_mem _)
    · exact .inr (List.mem_singleton.1 q)
  have key:Good g C R (others l i j ++ [Ep l[i]! l[j]!]):=by
    refine ⟨fun r hr=>?_,fun r hr=>?_,fun d hd hg=>?_⟩
    · rcases hm r hr with q | q
      · exact h.inr r q
      · rw [q];exact (h.inr _ mi).ar (h.inr _ mj)
    · rcases hm r hr with q | q
      · exact h.ti r q
      · rw [q];exact (h.ti _ mi).ar (h.ti _ mj)
    · obtain ⟨r,hr,hin⟩:=h.cov d hd hg
      obtain ⟨k,hk,rfl⟩:=List.getElem_of_mem hr
      rw [← xK hk] at hin
      by_cases h1:k=i
      · subst h1;exact ⟨_,List.mem_append_right _ (List.mem_singleton_self _),sQ (.inl hin)⟩
      · by_cases h2 : k = j
        · subst h2;exact ⟨_,List.mem_append_right _ (List.mem_singleton_self _),sQ (.inr hin)⟩
        · exact ⟨_,List.mem_append_left _ (Bg.2 ⟨k,hk,h1,h2,rfl⟩),hin⟩
  exact key.perm (Ce hij hj)
theorem I4 {l:List ak} {i j:Nat} (hij:i<j) (hj:j<l.length):(kW l i j).length+1=l.length:=by
  unfold kW
  rw [List.length_append,List.length_take,List.length_drop,List.length_set];omega
theorem Fh {N:Nat} {g:List Int} {C R:Nat} (hC:C≤1000) (hR:R≤1000) (hN:1000000≤N):∀ (m:Nat) (l:List ak),l.length≤m→m<100000→kZ l=l→Good g C R l→∀ M,m+1<M →
    ∃ res,bD (bV N) M (l,true)=some res∧bD (dL N) M l=some res∧Good g C R res∧(∀ i j,i<j→j<res.length→mO res[i]! res[j]! = false)∧res.length≤l.length:=by
  intro m
  induction m with
  | zero =>
    intro l hl _ hs hG M hM
    obtain ⟨M,rfl⟩:∃ m,M=m+2:=⟨M - 2,by omega⟩
    have:l=[]:=List.length_eq_zero_iff.1 (by omega)
    subst this
    have e0:lg [] (kW [])=none:=rfl
    have e1:lg [] (qG [])=none:=rfl
    have hj:=Cf (N:=N) (C:=C) (R:=R) (by omega) (by omega) hN (l:=[]) (by simp) (fun r hr=>by cases hr)
    have hj2:=Bh (N:=N) (C:=C) (R:=R) (by omega) (by omega) hN (l:=[]) (by simp) (fun r hr=>by cases hr)
    rw [e0] at hj
    rw [e1] at hj2
    have f1:bV N ([],true)=some (.inl ([],false)):=by
      unfold bV
      simp only [oC]
      rw [hj,bS,uI (by simp) hN,bS];rfl
    have f2:bV N ([],false)=some (.inr []):=rfl
    have f3:dL N []=some (.inr []):=by
      unfold dL
      rw [hj2,bS];rfl
    refine ⟨[],?_,?_,hG,fun i j _ h=>by simp at h,Nat.le_refl _⟩
    · rw [bD,f1]
      show bD (bV N) (M+1) _=_
      rw [bD,f2]
    · rw [bD,f3]
  | succ m ih =>
    intro l hl hm hs hG M hM
    obtain ⟨M,rfl⟩:∃ m,M=m+2:=⟨M - 2,by omega⟩
    have hj:=Cf (N:=N) (C:=C) (R:=R) (by omega) (by omega) hN (l:=l) (by omega) hG.inr
    have hj2:=Bh (N:=N) (C:=C) (R:=R) (by omega) (by omega) hN (l:=l) (by omega) hG.inr
    rw [Fj] at hj2
    cases hq:lg l (kW l) with
    | none =>
      rw [hq] at hj hj2
      have f1:bV N (l,true)=some (.inl (l,false)):=by
        unfold bV
        simp only [oC]
        rw [hj,bS,uI (by simp only [];omega) hN,bS]
        simp only []
        rw [hs]
      have f2:bV N (l,false)=some (.inr l):=rfl
      have f3:dL N l=some (.inr l):=by
        unfold dL
        rw [hj2,bS];rfl
      refine ⟨l,?_,?_,hG,fun i j h1 h2=>Eg hq h1 h2,Nat.le_refl _⟩
      · rw [bD,f1]
        show bD (bV N) (M+1) _=_
        rw [bD,f2]
      · rw [bD,f3]
    | some o =>
      obtain ⟨i,j,h1,h2,_,rfl⟩:=Eh hq
      rw [hq] at hj hj2
      have hlen:=I4 h1 h2
      have hrl:(kZ (kW l i j)).length=(kW l i j).length:=(lN _).length_eq
      have f1:bV N (l,true)=some (.inl (kZ (kW l i j),true)):=by
        unfold bV
        simp only [oC]
        rw [hj,bS,uI (by simp only [];omega) hN,bS]
      have f3:dL N l=some (.inl (kZ (kW l i j))):=by
        unfold dL
        rw [hj2,bS];rfl
      obtain ⟨res,r1,r2,r3,r4,r5⟩:=ih (kZ (kW l i j)) (by omega) (by omega) (zI _) ((hG.join h1 h2).perm (lN _)) (M+1) (by omega)
      refine ⟨res,?_,?_,r3,r4,by omega⟩
      · rw [bD,f1];exact r1
      · rw [bD,f3];exact r2
/- the groups -/
def nD (C i:Nat) (seen:List Bool):BS:=⟨seen.set i true,[i],i % C,i % C,i / C,i / C⟩
def JW (g:List Int) (C R:Nat) (t:List ak×List Bool) (i:Nat):List ak×List Bool :=
  bif decide (g[i]! = 3) && !t.2[i]! then (t.1 ++ [bx (xq g C R 3000 (nD C i t.2))],(xq g C R 3000 (nD C i t.2)).seen) else t
/- what a search keeps -/
structure JB (g:List Int) (C R:Nat) (yF:List Bool) (s:BS):Prop where
  inv:Bj g C R s
  old:∀ d:Nat,yF[d]! = true→s.seen[d]! = true
  new:∀ d:Nat,d<R * C→s.seen[d]! = true→yF[d]! = true∨d ∈ s.q∨Dn C (bx s) d
  ti:Bf g C R (bx s)
theorem yG {l:List Bool} {i d:Nat} (hi:i<l.length):(l.set i true)[d]! = if d=i then true else l[d]!:=by
  by_cases h:d=i
  · subst h;rw [if_pos rfl,xK (by rw [List.length_set];exact hi),List.getElem_set,if_pos rfl]
  · rw [if_neg h]
    by_cases hd:d<l.length
    · rw [xK (by rw [List.length_set];exact hd),xK hd,List.getElem_set,if_neg (fun q=>h q.symm)]
    · simp [hd]
theorem zJ {g:List Int} {C R c:Nat}:∀ (ds:List (Int×Int)) (s:List Bool×List Nat),s.1.length=R * C →
    (∀ d:Nat,s.1[d]! = true→(ds.foldl (fun s d=>visit g s (qH C R c d)) s).1[d]! = true)∧(∀ d ∈ s.2,d ∈ (ds.foldl (fun s d=>visit g s (qH C R c d)) s).2) ∧
    (∀ d:Nat,(ds.foldl (fun s d=>visit g s (qH C R c d)) s).1[d]! = true→s.1[d]! = true∨d ∈ (ds.foldl (fun s d=>visit g s (qH C R c d)) s).2):=by
  intro ds
  induction ds with
  | nil=>intro s _;exact ⟨fun _ h=>h,fun _ h=>h,fun _ h=>.inl h⟩
  | cons e ds ih =>
    intro s hl
    obtain ⟨a1,a2,a3⟩:=ih (visit g s (qH C R c e)) (by rw [tJ];exact hl)
    have hv:(∀ d:Nat,s.1[d]! = true→(visit g s (qH C R c e)).1[d]! = true)∧(∀ d ∈ s.2,d ∈ (visit g s (qH C R c e)).2)∧(∀ d:Nat,(visit g s (qH C R c e)).1[d]! = true→s.1[d]! = true∨d ∈ (visit g s (qH C R c e)).2):=by
      unfold visit
      cases hn:qH C R c e with
      | none=>exact ⟨fun _ h=>h,fun _ h=>h,fun _ h=>.inl h⟩
      | some k =>
        have hk:=(Dp hn).1
        simp only []
        cases decide (g[k]! = 3) && !s.1[k]! with
        | false=>exact ⟨fun _ h=>h,fun _ h=>h,fun _ h=>.inl h⟩
        | true =>
          rw [oC]
          refine ⟨fun d h=>?_,fun d h=>List.mem_append_left _ h,fun d h=>?_⟩
          · show (s.1.set k true)[d]! = true
            rw [yG (by rw [hl];exact hk)];split
            · rfl
            · exact h
          · have h:(s.1.set k true)[d]! = true:=h
            rw [yG (by rw [hl];exact hk)] at h
            split at h
            · rename_i q;subst q;exact .inr (List.mem_append_right _ (List.mem_singleton_self _))
            · exact .inl h
    obtain ⟨b1,b2,b3⟩:=hv
    refine ⟨fun d h=>a1 d (b1 d h),fun d h=>a2 d (b2 d h),fun d h=>?_⟩
    rcases a3 d h with q | q
    · rcases b3 d q with q2 | q2
      · exact .inl q2
      · exact .inr (a2 d q2)
    · exact .inr q
theorem JB.step {g:List Int} {C R:Nat} {yF:List Bool} {s:BS} (h:JB g C R yF s) (hC:0<C) {c:Nat} {q:List Nat} (hq:s.q=c :: q):JB g C R yF (jX g C R s c q):=by
  obtain ⟨h1,_⟩:=h.inv.step hC hq
  have hc:=h.inv.q c (by rw [hq];exact List.mem_cons_self)
  obtain ⟨v1,v2,v3⟩:=zJ (g:=g) (C:=C) (R:=R) (c:=c) zx (s.seen,q) h.inv.len
  have hlr:=h.inv.lr
  have htw:=h.inv.tw
  have hgrow:∀ d,Dn C (bx s) d→Dn C (bx (jX g C R s c q)) d:=fun d hd=>by
    unfold Dn bx jX at *
    simp only [] at *
    omega
  have hcin:Dn C (bx (jX g C R s c q)) c:=by
    unfold Dn bx jX
    simp only []
    omega
  refine ⟨h1,fun d hd=>v1 d (h.old d hd),fun d hd hs=>?_,?_⟩
  · rcases v3 d hs with hs | hs
    · rcases h.new d hd hs with k | k | k
      · exact .inl k
      · rw [hq] at k
        rcases List.mem_cons.1 k with k | k
        · subst k;exact .inr (.inr hcin)
        · exact .inr (.inl (v2 d k))
      · exact .inr (.inr (hgrow d k))
    · exact .inr (.inl hs)
  · obtain ⟨⟨a1,p1,p2,p3,p4⟩,⟨a2,p5,p6,p7,p8⟩,⟨a3,p9,p10,p11,p12⟩,⟨a4,p13,p14,p15,p16⟩⟩:=h.ti
    have p4:((a1 % C:Nat):Int)=(s.l:Int):=p4
    have p8:((a2 % C:Nat):Int)=(s.l:Int)+((s.r:Int) - s.l+1) - 1:=p8
    have p12:((a3 / C:Nat):Int)=(s.t:Int):=p12
    have p16:((a4 / C:Nat):Int)=(s.t:Int)+((s.w:Int) - s.t+1) - 1:=p16
    refine ⟨?_,?_,?_,?_⟩
    · by_cases k : s.l ≤ c % C
      · exact ⟨a1,p1,p2,hgrow _ p3,by show _=((min s.l (c % C):Nat):Int);omega⟩
      · exact ⟨c,hc.1,hc.2,hcin,by show _=((min s.l (c % C):Nat):Int);omega⟩
    · by_cases k : c % C ≤ s.r
      · exact ⟨a2,p5,p6,hgrow _ p7,by show _=((min s.l (c % C):Nat):Int)+(((max s.r (c % C):Nat):Int) - ((min s.l (c % C):Nat):Int)+1) - 1;omega⟩
      · exact ⟨c,hc.1,hc.2,hcin,by show _=((min s.l (c % C):Nat):Int)+(((max s.r (c % C):Nat):Int) - ((min s.l (c % C):Nat):Int)+1) - 1;omega⟩
    · by_cases k : s.t ≤ c / C
      · exact ⟨a3,p9,p10,hgrow _ p11,by show _=((min s.t (c / C):Nat):Int);omega⟩
      · exact ⟨c,hc.1,hc.2,hcin,by show _=((min s.t (c / C):Nat):Int);omega⟩
    · by_cases k : c / C ≤ s.w
      · exact ⟨a4,p13,p14,hgrow _ p15,by show _=((min s.t (c / C):Nat):Int)+(((max s.w (c / C):Nat):Int) - ((min s.t (c / C):Nat):Int)+1) - 1;omega⟩
      · exact ⟨c,hc.1,hc.2,hcin,by show _=((min s.t (c / C):Nat):Int)+(((max s.w (c / C):Nat):Int) - ((min s.t (c / C):Nat):Int)+1) - 1;omega⟩
theorem bfs_J {g:List Int} {C R:Nat} {yF:List Bool} (hC:0<C):∀ (k:Nat) (s:BS),JB g C R yF s→JB g C R yF (xq g C R k s):=by
  intro k
  induction k with
  | zero=>intro s h;exact h
  | succ k ih =>
    intro s h
    show JB g C R yF (match s.q with | []=>s | c :: q=>xq g C R k (jX g C R s c q))
    cases hq:s.q with
    | nil=>exact h
    | cons c q=>exact ih _ (h.step hC hq)
structure GI (g:List Int) (C R i:Nat) (t:List ak×List Bool):Prop where
  len:t.2.length=R * C
  n:t.1.length≤i
  inr:∀ r ∈ t.1,Dy (C:Int) (R:Int) r
  ti:∀ r ∈ t.1,Bf g C R r
  cov:∀ d:Nat,d<R * C→t.2[d]! = true→∃ r ∈ t.1,Dn C r d
  all:∀ d:Nat,d<i→g[d]! = 3→t.2[d]! = true
theorem Fe {g:List Int} {C R i:Nat} {seen:List Bool} (hC:0<C) (hi:i<R * C) (hs:seen.length=R * C) (hg:g[i]! = 3):JB g C R seen (nD C i seen)∧meas (nD C i seen)≤R * C+1:=by
  have h1:i % C<C:=Nat.mod_lt _ hC
  have h2:i / C<R:=Nat.div_lt_of_lt_mul (by rw [Nat.mul_comm];exact hi)
  have hin:Dn C (bx (nD C i seen)) i:=by
    unfold Dn bx nD
    simp only []
    omega
  refine ⟨⟨⟨by show (seen.set i true).length=_;rw [List.length_set];exact hs,fun d hd=>?_,⟨Nat.le_refl _,h1⟩,⟨Nat.le_refl _,h2⟩⟩,fun d hd=>?_,fun d hd hsd=>?_,?_⟩,?_⟩
  · have hd:d ∈ [i]:=hd
    rw [List.mem_singleton.1 hd];exact ⟨hi,hg⟩
  · show (seen.set i true)[d]! = true
    rw [yG (by rw [hs];exact hi)];split
    · rfl
    · exact hd
  · have hsd:(seen.set i true)[d]! = true:=hsd
    rw [yG (by rw [hs];exact hi)] at hsd
    split at hsd
    · rename_i q;subst q;exact .inr (.inl (List.mem_singleton_self _))
    · exact .inl hsd
  · exact ⟨⟨i,hi,hg,hin,rfl⟩,⟨i,hi,hg,hin,by show ((i % C:Nat):Int)=((i % C:Nat):Int)+(((i % C:Nat):Int) - ((i % C:Nat):Int)+1) - 1;omega⟩,⟨i,hi,hg,hin,rfl⟩,⟨i,hi,hg,hin,by show ((i / C:Nat):Int)=((i / C:Nat):Int)+(((i / C:Nat):Int) - ((i / C:Nat):Int)+1) - 1;omega⟩⟩
  · unfold meas
    show (seen.set i true).count false+1≤_
    have:=List.count_le_length (a:=false) (l:=seen.set i true)
    rw [List.length_set,hs] at this
    omega
theorem GI.step {g:List Int} {C R i:Nat} {t:List ak×List Bool} (h:GI g C R i t) (hC:0<C) (hi:i<R * C) (hn:R * C≤400):GI g C R (i+1) (JW g C R t i):=by
  unfold JW
  cases hb:decide (g[i]! = 3) && !t.2[i]! with
  | false =>
    rw [qo]
    refine ⟨h.len,Nat.le_succ_of_le h.n,h.inr,h.ti,h.cov,fun d hd hg=>?_⟩
    by_cases k:d=i
    · subst k
      rw [hg] at hb
      simpa using hb
    · exact h.all d (by omega) hg
  | true =>
    rw [oC]
    simp only [Bool.and_eq_true,decide_eq_true_eq] at hb
    obtain ⟨j1,j2⟩:=Fe hC hi h.len hb.1
    have hJ:=bfs_J hC 3000 _ j1
    obtain ⟨b1,b2⟩:=Gn hC 3000 _ j1.inv (by omega)
    have hnew:∀ d,d<R * C→(xq g C R 3000 (nD C i t.2)).seen[d]! = true→t.2[d]! = true∨Dn C (bx (xq g C R 3000 (nD C i t.2))) d:=fun d hd hs=>by
      rcases hJ.new d hd hs with k | k | k
      · exact .inl k
      · rw [b2] at k;cases k
      · exact .inr k
    refine ⟨b1.len,by show (t.1 ++ [_]).length≤_;rw [List.length_append,List.length_singleton];have:=h.n;omega,fun r hr=>?_,fun r hr=>?_,fun d hd hs=>?_,fun d hd hg=>?_⟩
    · rcases List.mem_append.1 hr with k | k
      · exact h.inr r k
      · rw [List.mem_singleton.1 k];exact b1.bx
    · rcases List.mem_append.1 hr with k | k
      · exact h.ti r k
      · rw [List.mem_singleton.1 k];exact hJ.ti
    · rcases hnew d hd hs with k | k
      · obtain ⟨r,hr,hin⟩:=h.cov d hd k
        exact ⟨r,List.mem_append_left _ hr,hin⟩
      · exact ⟨_,List.mem_append_right _ (List.mem_singleton_self _),k⟩
    · show (xq g C R 3000 (nD C i t.2)).seen[d]! = true
      by_cases k:d=i
      · subst k
        have hst:∀ (n:Nat) (s:BS),s.seen.length=R * C→s.seen[d]! = true→(xq g C R n s).seen[d]! = true:=by
          intro n
          induction n with
          | zero=>intro s _ hs;exact hs
          | succ n ih =>
            intro s hl hs
            show (match s.q with | []=>s | c :: q=>xq g C R n (jX g C R s c q)).seen[d]! = true
            cases s.q with
            | nil=>exact hs
            | cons c q =>
              have hvl:=(zJ (g:=g) (C:=C) (R:=R) (c:=c) zx (s.seen,q) hl).1 d hs
              have hvn:∀ (ds:List (Int×Int)) (z:List Bool×List Nat),(ds.foldl (fun s d=>visit g s (qH C R c d)) z).1.length=z.1.length:=by
                intro ds
                induction ds with
                | nil=>intro z;rfl
                | cons e ds ihd=>intro z;rw [List.foldl_cons,ihd,tJ]
              exact ih _ (by show (lQ g C R c (s.seen,q)).1.length=_;unfold lQ;rw [hvn];exact hl) hvl
        exact hst 3000 _ j1.inv.len (by show (t.2.set d true)[d]! = true;rw [yG (by rw [h.len];exact hi),if_pos rfl])
      · exact hJ.old d (h.all d (by omega) hg)
end Go.KB
