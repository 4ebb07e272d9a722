/- Plain laws of chapter 7: near, exclusion and needs of the reference. Plain laws of chapter 7: which sets of permits are possible. No condition. -/
import Derived.Test.YtalkbgomndhkmaaGreatPZn
namespace Go.KB
set_option linter.unusedVariables false
end Go.KB
namespace Go.KB
set_option linter.unusedVariables false
theorem BH {α:Type} {l:List α} {N:Nat} {f:Int→Option (Int ⊕ (Unit ⊕ Bool))} {g:α→Bool} (hf:∀ (i:Nat) (h:i<l.length),f (i:Int)=bif g l[i] then some (.inl ((i+1:Nat):Int)) else some (.inr (.inr false))) (he:f (l.length:Int)=some (.inr (.inl ()))) (hN:l.length<N) :
  dA f N 0=some (bif l.all g then Sum.inl () else Sum.inr false):=by
 rw [Gp (fun i=>bif (l.drop i).all g then .inl () else .inr false) (fun i hi=>?_) (by simp [he]) hN]
 ·rw [List.drop_zero]
 ·rw [hf i hi]
  simp only [drop_at hi,List.all_cons]
  cases g l[i]
  ·exact .inr rfl
  ·exact .inl ⟨rfl,by simp⟩
theorem J6 {n N:Nat} {f:Int→Option (Int ⊕ (Unit ⊕ Bool))} {g:Nat→Bool} (hf:∀ (i:Nat),i<n→f (i:Int)=bif g i then some (.inl ((i+1:Nat):Int)) else some (.inr (.inr false))) (he:f (n:Int)=some (.inr (.inl ()))) (hN:n<N) :
  dA f N 0=some (bif (List.range n).all g then Sum.inl () else Sum.inr false) :=
 BH (l:=List.range n) (fun i hi=>by rw [List.getElem_range];exact hf i (by simpa using hi)) (by rw [List.length_range];exact he) (by rw [List.length_range];exact hN)
def vk (p:GPermitPlan) (l:List aC):Bool:=(List.range l.length).all fun i=>(l.take i).all (fun y=>!Aw p l[i]! y)&&l[i]!.Locks.all (fun k=>l.any fun y=>decide (y.Name=k))
theorem J7 {p:GPermitPlan} {l:List aC}:vk p l=true↔(∀ x ∈ l,∀ y ∈ l,Aw p x y=false)∧∀ x ∈ l,∀ k ∈ x.Locks,∃ y ∈ l,y.Name=k:=by
 unfold vk
 simp only [List.all_eq_true,Bool.and_eq_true,List.mem_range,List.any_eq_true,decide_eq_true_eq,Bool.not_eq_true']
 constructor
 ·intro h
  have key:∀ i j,i<j→j<l.length→Aw p l[j]! l[i]! = false:=fun i j hij hj=>(h j hj).1 _ (by
   rw [AY (show i<l.length by omega)]
   exact List.mem_take_iff_getElem.2 ⟨i,by omega,rfl⟩)
  refine ⟨fun x hx y hy=>?_,fun x hx k hk=>?_⟩
  ·obtain ⟨i,hi,rfl⟩:=List.getElem_of_mem hx
   obtain ⟨j,hj,rfl⟩:=List.getElem_of_mem hy
   rw [← AY hi,← AY hj]
   rcases Nat.lt_trichotomy i j with h1 | h1 | h1
   ·rw [O5];exact key i j h1 hj
   ·subst h1;exact O6 p _
   ·exact key j i h1 hi
  ·obtain ⟨i,hi,rfl⟩:=List.getElem_of_mem hx
   exact (h i hi).2 k (by rw [AY hi];exact hk)
 ·rintro ⟨h1,h2⟩ i hi
  exact ⟨fun y hy=>h1 _ (zT hi) y (List.mem_of_mem_take hy),fun k hk=>h2 _ (zT hi) k hk⟩
theorem GV {N:Nat} {p:GPermitPlan} {l:List aC} (hp:LV p) (hl:l.length<1000000) (hk:∀ x ∈ l,x.Locks.length<1000) (hN:1000000≤N):oU N p l=some (vk p l):=by
 have h3:dA (mO N p l) N 0=some (bif vk p l then Sum.inl () else Sum.inr false):=by
  unfold vk
  refine J6 (fun i hi=>?_) ?_ (by omega)
  ·unfold mO
   rw [bZ,dT (by omega),vC,jw hi,bS,show P6 l 0 (i:Int)=some ((l.take i).drop 0) from Ua (a:=0) (Nat.zero_le _) (by omega),bS,List.drop_zero]
   have hti:(l.take i).length=i:=by rw [List.length_take];omega
   have h2:dA (mP N p l[i] (l.take i)) N 0=some (bif (l.take i).all (fun y=>!Aw p l[i] y) then Sum.inl () else Sum.inr false):=by
    refine BH (fun j hj=>?_) ?_ (by omega)
    ·unfold mP
     rw [bZ,dT (by omega),vC,jw hj,bS,NQ hp hN,bS,qR (by omega)]
     cases Aw p l[i] (l.take i)[j] <;> rfl
    ·unfold mP
     rw [bZ,dF (by omega),sF]
   have hlk:=hk _ (List.getElem_mem hi)
   have h1:dA (mQ N l l[i]) N 0=some (bif l[i].Locks.all (fun k=>l.any fun y=>decide (y.Name=k)) then Sum.inl () else Sum.inr false):=by
    refine BH (fun j hj=>?_) ?_ (by omega)
    ·unfold mQ iV
     rw [bZ,dT (by omega),vC,jw hj,bS,J8 (g:=fun y=>decide (y.Name=l[i].Locks[j])) (fun y=>by unfold pJ;rw [vw]) hl hN,bS,LG,bS,qR (by omega)]
     cases l.any (fun y=>decide (y.Name=l[i].Locks[j])) <;> rfl
    ·unfold mQ
     rw [bZ,dF (by omega),sF]
   rw [h2,h1,AY hi,qR (by omega),bS]
   cases (l.take i).all (fun y=>!Aw p l[i] y) with
   | false=>rfl
   | true=>cases l[i].Locks.all (fun k=>l.any fun y=>decide (y.Name=k)) <;> rfl
  ·unfold mO
   rw [bZ,dF (by omega),sF]
 unfold oU
 rw [h3]
 cases vk p l <;> rfl
def eC (p:GPermitPlan) (l:List Str) (i:Nat):Int:=if zn p l[i]! = false then 6 else if Q7 (l.take i) l[i]! = true then 5 else 0
def I7 (p:GPermitPlan) (l:List Str):Int:=dZ (eC p l) l.length 0
def xA (p:GPermitPlan) (l:List Str):Bool×Int:=if lC p≠0 then (false,lC p) else if I7 p l=0 then (vk p (l.map (LJ p)),0) else (false,I7 p l)
theorem AZ {N:Nat} {p:GPermitPlan} {l:List Str} (hp:LV p) (hl:l.length<1000000) (hN:1000000≤N):lJ N p l=some (xA p l):=by
  have hlim:lim ≥ 10000000:=by decide
  have hm:=hp.m
  unfold lJ xA
  rw [FC hp hN,bS,qG]
  by_cases h:lC p=0
  · rw [dT h, if_neg (by simp [h]), Bool.not_true, sF]
    have hloop:=Gq (N:=N) (f:=kV N p l) (n:=l.length) (e:=eC p l) (fin:=Sum.inl (l.map (LJ p))) (err:=fun e=>Sum.inr (false,e)) (fun i=>((l.take i).map (LJ p),(i:Int))) (fun i hi _=>by
      unfold kV eC
      simp only []
      rw [bZ,dT (by omega),vC,jw hi,bS,GX (by omega) hN,bS,Gs,AY hi]
      show (bif !zn p l[i] then _ else _)=_
      cases hh:zn p l[i] with
      | false=>rfl
      | true =>
        simp only [Bool.not_true,sF]
        have hti:(l.take i).length=i:=by rw [List.length_take];omega
        rw [show P6 l 0 (i:Int)=some ((l.take i).drop 0) from Ua (a:=0) (Nat.zero_le _) (by omega),bS,List.drop_zero,Je (by omega) hN,bS]
        cases Q7 (l.take i) l[i] with
        | true=>rfl
        | false =>
          rw [sF,JB (by rw [List.length_map,hti];simp only [List.length_singleton];omega),bS,qR (by omega),List.take_succ_eq_append_getElem hi,List.map_append];rfl) (fun _=>by
      unfold kV
      simp only []
      rw [bZ,dF (by omega),sF,List.take_length]) (by omega)
    rw [show (([]:List aC),(0:Int))=((l.take 0).map (LJ p),((0:Nat):Int)) from by simp,hloop]
    unfold I7 qI
    by_cases he:dZ (eC p l) l.length 0=0
    · rw [if_pos he, if_pos he, bS, Sum.elim_inl, GV hp (by rw [List.length_map]; exact hl) (fun x hx => ?_) hN]
      · rfl
      · obtain ⟨s,hs,rfl⟩:=List.mem_map.1 hx
        obtain ⟨j,hj,rfl⟩:=List.getElem_of_mem hs
        have:=x9 he j (by omega) (by omega)
        unfold eC at this
        rw [AY hj] at this
        split at this
        · cases this
        · rename_i hh;exact hp.l _ (Jd (by simpa using hh)).1
    · rw [if_neg he,if_neg he];rfl
  · rw [dF h,if_pos h];rfl
end Go.KB
