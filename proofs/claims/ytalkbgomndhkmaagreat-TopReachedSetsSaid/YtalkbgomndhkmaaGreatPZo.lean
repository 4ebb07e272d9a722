/- Plain laws of chapter 7: near, exclusion and needs of the reference. Plain laws of chapter 7: which sets of permits are possible. No condition. -/
import Derived.Test.YtalkbgomndhkmaaGreatPZn
namespace Go.KB
set_option linter.unusedVariables false
end Go.KB
namespace Go.KB
set_option linter.unusedVariables false
theorem Jd {α:Type} {l:List α} {N:Nat} {f:Int→Option (Int ⊕ (Unit ⊕ Bool))} {g:α→Bool} (hf:∀ (i:Nat) (h:i<l.length),f (i:Int)=bif g l[i] then some (.inl ((i+1:Nat):Int)) else some (.inr (.inr false))) (he:f (l.length:Int)=some (.inr (.inl ()))) (hN:l.length<N) :
  bW f N 0=some (bif l.all g then Sum.inl () else Sum.inr false):=by
 rw [LK (fun i=>bif (l.drop i).all g then .inl () else .inr false) (fun i hi=>?_) (by simp [he]) hN]
 ·rw [List.drop_zero]
 ·rw [hf i hi]
  simp only [drop_at hi,List.all_cons]
  cases g l[i]
  ·exact .inr rfl
  ·exact .inl ⟨rfl,by simp⟩
theorem NR {n N:Nat} {f:Int→Option (Int ⊕ (Unit ⊕ Bool))} {g:Nat→Bool} (hf:∀ (i:Nat),i<n→f (i:Int)=bif g i then some (.inl ((i+1:Nat):Int)) else some (.inr (.inr false))) (he:f (n:Int)=some (.inr (.inl ()))) (hN:n<N) :
  bW f N 0=some (bif (List.range n).all g then Sum.inl () else Sum.inr false) :=
 Jd (l:=List.range n) (fun i hi=>by rw [List.getElem_range];exact hf i (by simpa using hi)) (by rw [List.length_range];exact he) (by rw [List.length_range];exact hN)
def xO (p:GPermitPlan) (l:List aA):Bool:=(List.range l.length).all fun i=>(l.take i).all (fun y=>!oW p l[i]! y)&&l[i]!.Locks.all (fun k=>l.any fun y=>decide (y.Name=k))
theorem I7 {p:GPermitPlan} {l:List aA}:xO p l=true↔(∀ x ∈ l,∀ y ∈ l,oW p x y=false)∧∀ x ∈ l,∀ k ∈ x.Locks,∃ y ∈ l,y.Name=k:=by
 unfold xO
 simp only [List.all_eq_true,Bool.and_eq_true,List.mem_range,List.any_eq_true,decide_eq_true_eq,Bool.not_eq_true']
 constructor
 ·intro h
  have key:∀ i j,i<j→j<l.length→oW p l[j]! l[i]! = false:=fun i j hij hj=>(h j hj).1 _ (by
   rw [wC (show i<l.length by omega)]
   exact List.mem_take_iff_getElem.2 ⟨i,by omega,rfl⟩)
  refine ⟨fun x hx y hy=>?_,fun x hx k hk=>?_⟩
  ·obtain ⟨i,hi,rfl⟩:=List.getElem_of_mem hx
   obtain ⟨j,hj,rfl⟩:=List.getElem_of_mem hy
   rw [← wC hi,← wC hj]
   rcases Nat.lt_trichotomy i j with h1 | h1 | h1
   ·rw [DW];exact key i j h1 hj
   ·subst h1;exact LC p _
   ·exact key j i h1 hi
  ·obtain ⟨i,hi,rfl⟩:=List.getElem_of_mem hx
   exact (h i hi).2 k (by rw [wC hi];exact hk)
 ·rintro ⟨h1,h2⟩ i hi
  exact ⟨fun y hy=>h1 _ (Be hi) y (List.mem_of_mem_take hy),fun k hk=>h2 _ (Be hi) k hk⟩
theorem Jz {N:Nat} {p:GPermitPlan} {l:List aA} (hp:Eh p) (hl:l.length<1000000) (hk:∀ x ∈ l,x.Locks.length<1000) (hN:1000000≤N):qO N p l=some (xO p l):=by
 have h3:bW (oL N p l) N 0=some (bif xO p l then Sum.inl () else Sum.inr false):=by
  unfold xO
  refine NR (fun i hi=>?_) ?_ (by omega)
  ·unfold oL
   rw [bH,dT (by omega),lJ,iW hi,bS,show Qn l 0 (i:Int)=some ((l.take i).drop 0) from O3 (a:=0) (Nat.zero_le _) (by omega),bS,List.drop_zero]
   have hti:(l.take i).length=i:=by rw [List.length_take];omega
   have h2:bW (oM N p l[i] (l.take i)) N 0=some (bif (l.take i).all (fun y=>!oW p l[i] y) then Sum.inl () else Sum.inr false):=by
    refine Jd (fun j hj=>?_) ?_ (by omega)
    ·unfold oM
     rw [bH,dT (by omega),lJ,iW hj,bS,JC hp hN,bS,oG (by omega)]
     cases oW p l[i] (l.take i)[j] <;> rfl
    ·unfold oM
     rw [bH,dF (by omega),kC]
   have hlk:=hk _ (List.getElem_mem hi)
   have h1:bW (oN N l l[i]) N 0=some (bif l[i].Locks.all (fun k=>l.any fun y=>decide (y.Name=k)) then Sum.inl () else Sum.inr false):=by
    refine Jd (fun j hj=>?_) ?_ (by omega)
    ·unfold oN jD
     rw [bH,dT (by omega),lJ,iW hj,bS,NT (g:=fun y=>decide (y.Name=l[i].Locks[j])) (fun y=>by unfold qV;rw [rQ]) hl hN,bS,XP,bS,oG (by omega)]
     cases l.any (fun y=>decide (y.Name=l[i].Locks[j])) <;> rfl
    ·unfold oN
     rw [bH,dF (by omega),kC]
   rw [h2,h1,wC hi,oG (by omega),bS]
   cases (l.take i).all (fun y=>!oW p l[i] y) with
   | false=>rfl
   | true=>cases l[i].Locks.all (fun k=>l.any fun y=>decide (y.Name=k)) <;> rfl
  ·unfold oL
   rw [bH,dF (by omega),kC]
 unfold qO
 rw [h3]
 cases xO p l <;> rfl
def eC (p:GPermitPlan) (l:List Str) (i:Nat):Int:=if iU p l[i]! = false then 6 else if Ik (l.take i) l[i]! = true then 5 else 0
def Uj (p:GPermitPlan) (l:List Str):Int:=dZ (eC p l) l.length 0
def Uh (p:GPermitPlan) (l:List Str):Bool×Int:=if lV p≠0 then (false,lV p) else if Uj p l=0 then (xO p (l.map (nR p)),0) else (false,Uj p l)
theorem MV {N:Nat} {p:GPermitPlan} {l:List Str} (hp:Eh p) (hl:l.length<1000000) (hN:1000000≤N):qR N p l=some (Uh p l):=by
  have hlim:lim ≥ 10000000:=by decide
  have hm:=hp.m
  unfold qR Uh
  rw [DZ hp hN,bS,oz]
  by_cases h:lV p=0
  · rw [dT h, if_neg (by simp [h]), Bool.not_true, kC]
    have hloop:=Je (N:=N) (f:=mZ N p l) (n:=l.length) (e:=eC p l) (fin:=Sum.inl (l.map (nR p))) (err:=fun e=>Sum.inr (false,e)) (fun i=>((l.take i).map (nR p),(i:Int))) (fun i hi _=>by
      unfold mZ eC
      simp only []
      rw [bH,dT (by omega),lJ,iW hi,bS,zq (by omega) hN,bS,Dh,wC hi]
      show (bif !iU p l[i] then _ else _)=_
      cases hh:iU p l[i] with
      | false=>rfl
      | true =>
        simp only [Bool.not_true,kC]
        have hti:(l.take i).length=i:=by rw [List.length_take];omega
        rw [show Qn l 0 (i:Int)=some ((l.take i).drop 0) from O3 (a:=0) (Nat.zero_le _) (by omega),bS,List.drop_zero,Ic (by omega) hN,bS]
        cases Ik (l.take i) l[i] with
        | true=>rfl
        | false =>
          rw [kC,Cc (by rw [List.length_map,hti];simp only [List.length_singleton];omega),bS,oG (by omega),List.take_succ_eq_append_getElem hi,List.map_append];rfl) (fun _=>by
      unfold mZ
      simp only []
      rw [bH,dF (by omega),kC,List.take_length]) (by omega)
    rw [show (([]:List aA),(0:Int))=((l.take 0).map (nR p),((0:Nat):Int)) from by simp,hloop]
    unfold Uj su
    by_cases he:dZ (eC p l) l.length 0=0
    · rw [if_pos he, if_pos he, bS, Sum.elim_inl, Jz hp (by rw [List.length_map]; exact hl) (fun x hx => ?_) hN]
      · rfl
      · obtain ⟨s,hs,rfl⟩:=List.mem_map.1 hx
        obtain ⟨j,hj,rfl⟩:=List.getElem_of_mem hs
        have:=tX he j (by omega) (by omega)
        unfold eC at this
        rw [wC hj] at this
        split at this
        · cases this
        · rename_i hh;exact hp.l _ (nN (by simpa using hh)).1
    · rw [if_neg he,if_neg he];rfl
  · rw [dF h,if_pos h];rfl
end Go.KB
