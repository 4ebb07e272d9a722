/- Plain laws of chapter 7: near, exclusion and needs of the reference. Plain laws of chapter 7: which sets of permits are possible. No condition. -/
import Derived.Test.YtalkbgomndhkmaaGreatPZn
namespace Go.KB
set_option linter.unusedVariables false
theorem Oy {N:Nat} {y:bV} {s:Str} (hl:y.Next.length<1000000) (hN:1000000≤N):vF N y s=some (MV y.Next s):=by
 unfold vF
 have e:MV y.Next s=y.Next.any (fun x=>decide (x=s)):=by
  unfold MV;congr 1;funext x;exact decide_eq_decide.2 ⟨Eq.symm,Eq.symm⟩
 rw [e]
 refine Oz (fun i hi=>?_) ?_ (by omega)
 ·unfold ug
  rw [bP,dT (by omega),qZ,iZ hi,bS,uH,pI (by omega)]
 ·unfold ug
  rw [bP,dF (by omega),qg]
theorem QR {p:GPermitPlan} {s:Str} (h:Es p s=true):idx p.bU (Ik (isS s) p.bU)=some (QS p s):=by
 obtain ⟨i,hi,e1,e2⟩:=ixS h
 rw [e1,yK hi,e2]
theorem ML {N:Nat} {p:GPermitPlan} {a b:Str} (hp:J4 p) (ha:Es p a=true) (hb:Es p b=true) (hN:1000000≤N):uh N p a b=some (GH p a b):=by
  have hs:=hp.s
  have h1:=hp.next a
  have h2:=hp.next b
  unfold uh GH
  rw [uH]
  by_cases h:a=b
  · rw [dT h,if_pos h];rfl
  · rw [dF h, if_neg h, qg, CW (by omega) hN, bS, QR ha, bS, Oy (by omega) hN, bS, CW (by omega) hN]
    cases MV (QS p a).Next b with
    | true=>rfl
    | false =>
      simp only [Bool.not_false,qZ,bS,QR hb,Oy (show (QS p b).Next.length<1000000 by omega) hN]
      cases MV (QS p b).Next a <;> rfl
theorem MN {N:Nat} {p:GPermitPlan} {i k:Nat} (hp:J4 p) (ho:RJ p) (hi:i<p.ay.length) (hk:k<p.ay.length) (hN:1000000≤N):ul N p (i:Int) (k:Int)=some (wE p p.ay[i]! p.ay[k]!):=by
  have hx:=hp.x
  unfold ul wE
  rw [uU]
  by_cases h:i=k
  · subst h;rw [dT rfl,dT rfl];rfl
  · rw [dF (by omega), dF (fun e => h (ho.pd i k hi hk e)), qg, qg, yK hi, bS, yK hk, bS, ML hp (ho.pk _ (sK hi)).2.2.2.2 (ho.pk _ (sK hk)).2.2.2.2 hN, bS]
    refine Oz (fun j hj=>?_) ?_ (by omega)
    · unfold qj XW
      rw [bP,dT (by omega),qZ,iZ hj,bS,pI (by omega)]
      simp only [DJ,uU]
      rw [Bool.and_comm]
    · unfold qj
      rw [bP,dF (by omega),qg]
end Go.KB
namespace Go.KB
set_option linter.unusedVariables false
theorem CS {α:Type} {l:List α} {N:Nat} {f:Int→Option (Int ⊕ (Unit ⊕ Bool))} {g:α→Bool} (hf:∀ (i:Nat) (h:i<l.length),f (i:Int)=bif g l[i] then some (.inl ((i+1:Nat):Int)) else some (.inr (.inr false))) (he:f (l.length:Int)=some (.inr (.inl ()))) (hN:l.length<N) :
  dh f N 0=some (bif l.all g then Sum.inl () else Sum.inr false):=by
 rw [HY (fun i=>bif (l.drop i).all g then .inl () else .inr false) (fun i hi=>?_) (by simp [he]) hN]
 ·rw [List.drop_zero]
 ·rw [hf i hi]
  simp only [drop_at hi,List.all_cons]
  cases g l[i]
  ·exact .inr rfl
  ·exact .inl ⟨rfl,by simp⟩
theorem CQ {n N:Nat} {f:Int→Option (Int ⊕ (Unit ⊕ Bool))} {g:Nat→Bool} (hf:∀ (i:Nat),i<n→f (i:Int)=bif g i then some (.inl ((i+1:Nat):Int)) else some (.inr (.inr false))) (he:f (n:Int)=some (.inr (.inl ()))) (hN:n<N) :
  dh f N 0=some (bif (List.range n).all g then Sum.inl () else Sum.inr false) :=
 CS (l:=List.range n) (fun i hi=>by rw [List.getElem_range];exact hf i (by simpa using hi)) (by rw [List.length_range];exact he) (by rw [List.length_range];exact hN)
def CV (p:GPermitPlan) (l:List aF):Bool:=(List.range l.length).all fun i=>(l.take i).all (fun y=>!wE p l[i]! y)&&l[i]!.Locks.all (fun k=>l.any fun y=>decide (y.Name=k))
theorem Si {p:GPermitPlan} {l:List aF}:CV p l=true↔(∀ x ∈ l,∀ y ∈ l,wE p x y=false)∧∀ x ∈ l,∀ k ∈ x.Locks,∃ y ∈ l,y.Name=k:=by
 unfold CV
 simp only [List.all_eq_true,Bool.and_eq_true,List.mem_range,List.any_eq_true,decide_eq_true_eq,Bool.not_eq_true']
 constructor
 ·intro h
  have key:∀ i j,i<j→j<l.length→wE p l[j]! l[i]! = false:=fun i j hij hj=>(h j hj).1 _ (by
   rw [xR (show i<l.length by omega)]
   exact List.mem_take_iff_getElem.2 ⟨i,by omega,rfl⟩)
  refine ⟨fun x hx y hy=>?_,fun x hx k hk=>?_⟩
  ·obtain ⟨i,hi,rfl⟩:=List.getElem_of_mem hx
   obtain ⟨j,hj,rfl⟩:=List.getElem_of_mem hy
   rw [← xR hi,← xR hj]
   rcases Nat.lt_trichotomy i j with h1 | h1 | h1
   ·rw [JH];exact key i j h1 hj
   ·subst h1;exact JI p _
   ·exact key j i h1 hi
  ·obtain ⟨i,hi,rfl⟩:=List.getElem_of_mem hx
   exact (h i hi).2 k (by rw [xR hi];exact hk)
 ·rintro ⟨h1,h2⟩ i hi
  exact ⟨fun y hy=>h1 _ (sK hi) y (List.mem_of_mem_take hy),fun k hk=>h2 _ (sK hi) k hk⟩
theorem Oq {N:Nat} {p:GPermitPlan} {l:List aF} (hp:J4 p) (hl:l.length<1000000) (hk:∀ x ∈ l,x.Locks.length<1000) (hN:1000000≤N):rW N p l=some (CV p l):=by
 have h3:dh (ni N p l) N 0=some (bif CV p l then Sum.inl () else Sum.inr false):=by
  unfold CV
  refine CQ (fun i hi=>?_) ?_ (by omega)
  ·unfold ni
   rw [bP,dT (by omega),qZ,iZ hi,bS,show SE l 0 (i:Int)=some ((l.take i).drop 0) from XY (a:=0) (Nat.zero_le _) (by omega),bS,List.drop_zero]
   have hti:(l.take i).length=i:=by rw [List.length_take];omega
   have h2:dh (ny N p l[i] (l.take i)) N 0=some (bif (l.take i).all (fun y=>!wE p l[i] y) then Sum.inl () else Sum.inr false):=by
    refine CS (fun j hj=>?_) ?_ (by omega)
    ·unfold ny
     rw [bP,dT (by omega),qZ,iZ hj,bS,OA hp hN,bS,pI (by omega)]
     cases wE p l[i] (l.take i)[j] <;> rfl
    ·unfold ny
     rw [bP,dF (by omega),qg]
   have hlk:=hk _ (List.getElem_mem hi)
   have h1:dh (nC N l l[i]) N 0=some (bif l[i].Locks.all (fun k=>l.any fun y=>decide (y.Name=k)) then Sum.inl () else Sum.inr false):=by
    refine CS (fun j hj=>?_) ?_ (by omega)
    ·unfold nC iY
     rw [bP,dT (by omega),qZ,iZ hj,bS,KR (g:=fun y=>decide (y.Name=l[i].Locks[j])) (fun y=>by unfold qi;rw [uH]) hl hN,bS,MI,bS,pI (by omega)]
     cases l.any (fun y=>decide (y.Name=l[i].Locks[j])) <;> rfl
    ·unfold nC
     rw [bP,dF (by omega),qg]
   rw [h2,h1,xR hi,pI (by omega),bS]
   cases (l.take i).all (fun y=>!wE p l[i] y) with
   | false=>rfl
   | true=>cases l[i].Locks.all (fun k=>l.any fun y=>decide (y.Name=k)) <;> rfl
  ·unfold ni
   rw [bP,dF (by omega),qg]
 unfold rW
 rw [h3]
 cases CV p l <;> rfl
def JJ (p:GPermitPlan) (S:Str→Bool):Bool:=(List.range p.ay.length).all fun i=>(bif S p.ay[i]!.Name then p.ay[i]!.Locks.all S else true)&&(List.range i).all fun k=>!(S p.ay[i]!.Name&&S p.ay[k]!.Name&&wE p p.ay[i]! p.ay[k]!)
theorem Sj {p:GPermitPlan} {S:Str→Bool}:JJ p S=true↔(∀ x ∈ p.ay,∀ y ∈ p.ay,S x.Name=true→S y.Name=true→wE p x y=false)∧∀ x ∈ p.ay,S x.Name=true→∀ k ∈ x.Locks,S k=true:=by
 unfold JJ
 simp only [List.all_eq_true,Bool.and_eq_true,List.mem_range,Bool.not_eq_true',Bool.and_eq_false_iff]
 constructor
 ·intro h
  have key:∀ i j,i<j→j<p.ay.length→S p.ay[j]!.Name=true→S p.ay[i]!.Name=true→wE p p.ay[j]! p.ay[i]! = false:=fun i j hij hj h1 h2=>by
   rcases (h j hj).2 i hij with (h3 | h3) | h3
   ·rw [h1] at h3;cases h3
   ·rw [h2] at h3;cases h3
   ·exact h3
  refine ⟨fun x hx y hy sx sy=>?_,fun x hx sx k hk=>?_⟩
  ·obtain ⟨i,hi,rfl⟩:=List.getElem_of_mem hx
   obtain ⟨j,hj,rfl⟩:=List.getElem_of_mem hy
   rw [← xR hi] at sx ⊢
   rw [← xR hj] at sy ⊢
   rcases Nat.lt_trichotomy i j with h1 | h1 | h1
   ·rw [JH];exact key i j h1 hj sy sx
   ·subst h1;exact JI p _
   ·exact key j i h1 hi sx sy
  ·obtain ⟨i,hi,rfl⟩:=List.getElem_of_mem hx
   have:=(h i hi).1
   rw [xR hi,sx,qZ,List.all_eq_true] at this
   exact this k hk
 ·rintro ⟨h1,h2⟩ i hi
  refine ⟨?_,fun k hk=>?_⟩
  ·cases hs:S p.ay[i]!.Name with
   | false=>rfl
   | true=>rw [qZ,List.all_eq_true];exact h2 _ (sK hi) hs
  ·cases hs:S p.ay[i]!.Name with
   | false=>exact .inl (.inl rfl)
   | true =>
    cases ht:S p.ay[k]!.Name with
    | false=>exact .inl (.inr rfl)
    | true=>exact .inr (h1 _ (sK hi) _ (sK (by omega)) hs ht)
theorem RZ {p:GPermitPlan} (ho:RJ p) {l:List Str} (hl:∀ s ∈ l,Ep p s=true):CV p (l.map (Qa p))=JJ p (MV l):=by
 have hmem:∀ x,x ∈ l.map (Qa p)↔x ∈ p.ay∧x.Name ∈ l:=by
  intro x
  rw [List.mem_map]
  constructor
  ·rintro ⟨s,hs,rfl⟩
   obtain ⟨h1,h2⟩:=GI (hl s hs)
   exact ⟨h1,by rw [h2];exact hs⟩
  ·rintro ⟨h1,h2⟩;exact ⟨x.Name,h2,ho.UN h1⟩
 rw [Bool.eq_iff_iff,Si,Sj]
 simp only [QO]
 constructor
 ·rintro ⟨h1,h2⟩
  refine ⟨fun x hx y hy sx sy=>h1 x ((hmem x).2 ⟨hx,sx⟩) y ((hmem y).2 ⟨hy,sy⟩),fun x hx sx k hk=>?_⟩
  obtain ⟨y,hy,rfl⟩:=h2 x ((hmem x).2 ⟨hx,sx⟩) k hk
  exact ((hmem y).1 hy).2
 ·rintro ⟨h1,h2⟩
  refine ⟨fun x hx y hy=>h1 x ((hmem x).1 hx).1 y ((hmem y).1 hy).1 ((hmem x).1 hx).2 ((hmem y).1 hy).2,fun x hx k hk=>?_⟩
  have hkl:=h2 x ((hmem x).1 hx).1 ((hmem x).1 hx).2 k hk
  exact ⟨Qa p k,List.mem_map.2 ⟨k,hkl,rfl⟩,(GI (hl k hkl)).2⟩
theorem MK {N:Nat} {p:GPermitPlan} {S:Str→Bool} (hp:J4 p) (ho:RJ p) (hN:1000000≤N):um N p (p.ay.map fun y=>S y.Name)=some (JJ p S):=by
 have hm:=hp.m
 have hI:∀ i (hi:i<p.ay.length),idx (p.ay.map fun y=>S y.Name) (i:Int)=some (S p.ay[i]!.Name):=fun i hi=>by
  rw [iZ (by rw [List.length_map];exact hi),List.getElem_map,xR hi]
 have h3:dh (oq N p (p.ay.map fun y=>S y.Name)) N 0=some (bif JJ p S then Sum.inl () else Sum.inr false):=by
  unfold JJ
  refine CQ (fun i hi=>?_) ?_ (by omega)
  ·have hlk:=hp.l _ (sK hi)
   have h2:dh (kJ N p (p.ay.map fun y=>S y.Name) (i:Int)) N 0=some (bif (bif S p.ay[i]!.Name then p.ay[i]!.Locks.all S else true) then Sum.inl () else Sum.inr false):=by
    cases hs:S p.ay[i]!.Name with
    | false =>
     obtain ⟨M,rfl⟩:∃ M,N=M+1:=⟨N - 1,by omega⟩
     have e:kJ (M+1) p (p.ay.map fun y=>S y.Name) (i:Int) 0=some (.inr (.inl ())):=by
      unfold kJ
      rw [yK hi,bS,hI i hi,hs]
      cases aJ .lss 0 (p.ay[i]!.Locks.length:Int) <;> rfl
     simp only [dh,e];rfl
    | true =>
     rw [qZ]
     refine CS (fun j hj=>?_) ?_ (by omega)
     ·unfold kJ
      have hh:=(ho.lk _ (sK hi) _ (List.getElem_mem hj)).1
      obtain ⟨q,hq,e1,e2⟩:=ixP hh
      rw [yK hi,bS,hI i hi,hs,bP,dT (by omega),qZ,bS,Bool.and_self,qZ,bS,iZ hj,bS,FT (by omega) hN,bS,e1,hI q hq,e2,(GI hh).2,bS,pI (by omega)]
      cases S p.ay[i]!.Locks[j] <;> rfl
     ·unfold kJ
      rw [yK hi,bS,bP,dF (by omega)];rfl
   have h1:dh (ou N p (p.ay.map fun y=>S y.Name) (i:Int)) N 0=some (bif (List.range i).all (fun k=>!(S p.ay[i]!.Name&&S p.ay[k]!.Name&&wE p p.ay[i]! p.ay[k]!)) then Sum.inl () else Sum.inr false):=by
    refine CQ (fun k hk=>?_) ?_ (by omega)
    ·unfold ou
     rw [bP,dT (by omega),qZ,hI i hi,bS,hI k (by omega),MN hp ho hi (show k<p.ay.length by omega) hN,pI (by omega)]
     cases S p.ay[i]!.Name with
     | false=>rfl
     | true =>
      cases S p.ay[k]!.Name with
      | false=>rfl
      | true=>cases wE p p.ay[i]! p.ay[k]! <;> rfl
    ·unfold ou
     rw [bP,dF (by omega),qg]
   unfold oq
   rw [bP,dT (by omega),qZ,h2,h1,bS,pI (by omega)]
   cases (bif S p.ay[i]!.Name then p.ay[i]!.Locks.all S else true) with
   | false=>rfl
   | true=>cases (List.range i).all (fun k=>!(S p.ay[i]!.Name&&S p.ay[k]!.Name&&wE p p.ay[i]! p.ay[k]!)) <;> rfl
  ·unfold oq
   rw [bP,dF (by omega),qg]
 unfold um
 rw [h3]
 cases JJ p S <;> rfl
end Go.KB
