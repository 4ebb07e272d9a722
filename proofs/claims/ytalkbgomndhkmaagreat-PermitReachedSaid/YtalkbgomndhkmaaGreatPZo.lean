/- Plain laws of chapter 7: near, exclusion and needs of the reference. Plain laws of chapter 7: which sets of permits are possible. No condition. -/
import Derived.Test.YtalkbgomndhkmaaGreatPZn
namespace Go.KB
set_option linter.unusedVariables false
end Go.KB
namespace Go.KB
set_option linter.unusedVariables false
theorem EM {α:Type} {l:List α} {N:Nat} {f:Int→Option (Int ⊕ (Unit ⊕ Bool))} {g:α→Bool} (hf:∀ (i:Nat) (h:i<l.length),f (i:Int)=bif g l[i] then some (.inl ((i+1:Nat):Int)) else some (.inr (.inr false))) (he:f (l.length:Int)=some (.inr (.inl ()))) (hN:l.length<N) :
  bZ f N 0=some (bif l.all g then Sum.inl () else Sum.inr false):=by
 rw [Ku (fun i=>bif (l.drop i).all g then .inl () else .inr false) (fun i hi=>?_) (by simp [he]) hN]
 ·rw [List.drop_zero]
 ·rw [hf i hi]
  simp only [drop_at hi,List.all_cons]
  cases g l[i]
  ·exact .inr rfl
  ·exact .inl ⟨rfl,by simp⟩
theorem MK {n N:Nat} {f:Int→Option (Int ⊕ (Unit ⊕ Bool))} {g:Nat→Bool} (hf:∀ (i:Nat),i<n→f (i:Int)=bif g i then some (.inl ((i+1:Nat):Int)) else some (.inr (.inr false))) (he:f (n:Int)=some (.inr (.inl ()))) (hN:n<N) :
  bZ f N 0=some (bif (List.range n).all g then Sum.inl () else Sum.inr false) :=
 EM (l:=List.range n) (fun i hi=>by rw [List.getElem_range];exact hf i (by simpa using hi)) (by rw [List.length_range];exact he) (by rw [List.length_range];exact hN)
def Cb (p:GPermitPlan) (l:List aA):Bool:=(List.range l.length).all fun i=>(l.take i).all (fun y=>!tX p l[i]! y)&&l[i]!.Locks.all (fun k=>l.any fun y=>decide (y.Name=k))
theorem Ue {p:GPermitPlan} {l:List aA}:Cb p l=true↔(∀ x ∈ l,∀ y ∈ l,tX p x y=false)∧∀ x ∈ l,∀ k ∈ x.Locks,∃ y ∈ l,y.Name=k:=by
 unfold Cb
 simp only [List.all_eq_true,Bool.and_eq_true,List.mem_range,List.any_eq_true,decide_eq_true_eq,Bool.not_eq_true']
 constructor
 ·intro h
  have key:∀ i j,i<j→j<l.length→tX p l[j]! l[i]! = false:=fun i j hij hj=>(h j hj).1 _ (by
   rw [En (show i<l.length by omega)]
   exact List.mem_take_iff_getElem.2 ⟨i,by omega,rfl⟩)
  refine ⟨fun x hx y hy=>?_,fun x hx k hk=>?_⟩
  ·obtain ⟨i,hi,rfl⟩:=List.getElem_of_mem hx
   obtain ⟨j,hj,rfl⟩:=List.getElem_of_mem hy
   rw [← En hi,← En hj]
   rcases Nat.lt_trichotomy i j with h1 | h1 | h1
   ·rw [F8];exact key i j h1 hj
   ·subst h1;exact Rt p _
   ·exact key j i h1 hi
  ·obtain ⟨i,hi,rfl⟩:=List.getElem_of_mem hx
   exact (h i hi).2 k (by rw [En hi];exact hk)
 ·rintro ⟨h1,h2⟩ i hi
  exact ⟨fun y hy=>h1 _ (Ah hi) y (List.mem_of_mem_take hy),fun k hk=>h2 _ (Ah hi) k hk⟩
theorem PO {N:Nat} {p:GPermitPlan} {l:List aA} (hp:Fa p) (hl:l.length<1000000) (hk:∀ x ∈ l,x.Locks.length<1000) (hN:1000000≤N):rY N p l=some (Cb p l):=by
 have h3:bZ (nZ N p l) N 0=some (bif Cb p l then Sum.inl () else Sum.inr false):=by
  unfold Cb
  refine MK (fun i hi=>?_) ?_ (by omega)
  ·unfold nZ
   rw [bH,dT (by omega),lN,ig hi,bS,show QY l 0 (i:Int)=some ((l.take i).drop 0) from Ru (a:=0) (Nat.zero_le _) (by omega),bS,List.drop_zero]
   have hti:(l.take i).length=i:=by rw [List.length_take];omega
   have h2:bZ (og N p l[i] (l.take i)) N 0=some (bif (l.take i).all (fun y=>!tX p l[i] y) then Sum.inl () else Sum.inr false):=by
    refine EM (fun j hj=>?_) ?_ (by omega)
    ·unfold og
     rw [bH,dT (by omega),lN,ig hj,bS,IV hp hN,bS,nY (by omega)]
     cases tX p l[i] (l.take i)[j] <;> rfl
    ·unfold og
     rw [bH,dF (by omega),lM]
   have hlk:=hk _ (List.getElem_mem hi)
   have h1:bZ (oh N l l[i]) N 0=some (bif l[i].Locks.all (fun k=>l.any fun y=>decide (y.Name=k)) then Sum.inl () else Sum.inr false):=by
    refine EM (fun j hj=>?_) ?_ (by omega)
    ·unfold oh jv
     rw [bH,dT (by omega),lN,ig hj,bS,MN (g:=fun y=>decide (y.Name=l[i].Locks[j])) (fun y=>by unfold qJ;rw [qN]) hl hN,bS,N9,bS,nY (by omega)]
     cases l.any (fun y=>decide (y.Name=l[i].Locks[j])) <;> rfl
    ·unfold oh
     rw [bH,dF (by omega),lM]
   rw [h2,h1,En hi,nY (by omega),bS]
   cases (l.take i).all (fun y=>!tX p l[i] y) with
   | false=>rfl
   | true=>cases l[i].Locks.all (fun k=>l.any fun y=>decide (y.Name=k)) <;> rfl
  ·unfold nZ
   rw [bH,dF (by omega),lM]
 unfold rY
 rw [h3]
 cases Cb p l <;> rfl
end Go.KB
