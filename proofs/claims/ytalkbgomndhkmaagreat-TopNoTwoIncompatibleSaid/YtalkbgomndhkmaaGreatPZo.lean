/- Plain laws of chapter 7: near, exclusion and needs of the reference. Plain laws of chapter 7: which sets of permits are possible. No condition. -/
import Derived.Test.YtalkbgomndhkmaaGreatPZn
namespace Go.KB
set_option linter.unusedVariables false
end Go.KB
namespace Go.KB
set_option linter.unusedVariables false
theorem EO {α:Type} {l:List α} {N:Nat} {f:Int→Option (Int ⊕ (Unit ⊕ Bool))} {g:α→Bool} (hf:∀ (i:Nat) (h:i<l.length),f (i:Int)=bif g l[i] then some (.inl ((i+1:Nat):Int)) else some (.inr (.inr false))) (he:f (l.length:Int)=some (.inr (.inl ()))) (hN:l.length<N) :
  dB f N 0=some (bif l.all g then Sum.inl () else Sum.inr false):=by
 rw [Kr (fun i=>bif (l.drop i).all g then .inl () else .inr false) (fun i hi=>?_) (by simp [he]) hN]
 ·rw [List.drop_zero]
 ·rw [hf i hi]
  simp only [drop_at hi,List.all_cons]
  cases g l[i]
  ·exact .inr rfl
  ·exact .inl ⟨rfl,by simp⟩
theorem TU {n N:Nat} {f:Int→Option (Int ⊕ (Unit ⊕ Bool))} {g:Nat→Bool} (hf:∀ (i:Nat),i<n→f (i:Int)=bif g i then some (.inl ((i+1:Nat):Int)) else some (.inr (.inr false))) (he:f (n:Int)=some (.inr (.inl ()))) (hN:n<N) :
  dB f N 0=some (bif (List.range n).all g then Sum.inl () else Sum.inr false) :=
 EO (l:=List.range n) (fun i hi=>by rw [List.getElem_range];exact hf i (by simpa using hi)) (by rw [List.length_range];exact he) (by rw [List.length_range];exact hN)
def Ir (p:GPermitPlan) (l:List aG):Bool:=(List.range l.length).all fun i=>(l.take i).all (fun y=>!sZ p l[i]! y)&&l[i]!.Locks.all (fun k=>l.any fun y=>decide (y.Name=k))
theorem TR {p:GPermitPlan} {l:List aG}:Ir p l=true↔(∀ x ∈ l,∀ y ∈ l,sZ p x y=false)∧∀ x ∈ l,∀ k ∈ x.Locks,∃ y ∈ l,y.Name=k:=by
 unfold Ir
 simp only [List.all_eq_true,Bool.and_eq_true,List.mem_range,List.any_eq_true,decide_eq_true_eq,Bool.not_eq_true']
 constructor
 ·intro h
  have key:∀ i j,i<j→j<l.length→sZ p l[j]! l[i]! = false:=fun i j hij hj=>(h j hj).1 _ (by
   rw [Dw (show i<l.length by omega)]
   exact List.mem_take_iff_getElem.2 ⟨i,by omega,rfl⟩)
  refine ⟨fun x hx y hy=>?_,fun x hx k hk=>?_⟩
  ·obtain ⟨i,hi,rfl⟩:=List.getElem_of_mem hx
   obtain ⟨j,hj,rfl⟩:=List.getElem_of_mem hy
   rw [← Dw hi,← Dw hj]
   rcases Nat.lt_trichotomy i j with h1 | h1 | h1
   ·rw [FT];exact key i j h1 hj
   ·subst h1;exact QR p _
   ·exact key j i h1 hi
  ·obtain ⟨i,hi,rfl⟩:=List.getElem_of_mem hx
   exact (h i hi).2 k (by rw [Dw hi];exact hk)
 ·rintro ⟨h1,h2⟩ i hi
  exact ⟨fun y hy=>h1 _ (Aj hi) y (List.mem_of_mem_take hy),fun k hk=>h2 _ (Aj hi) k hk⟩
theorem Pn {N:Nat} {p:GPermitPlan} {l:List aG} (hp:EP p) (hl:l.length<1000000) (hk:∀ x ∈ l,x.Locks.length<1000) (hN:1000000≤N):rP N p l=some (Ir p l):=by
 have h3:dB (nX N p l) N 0=some (bif Ir p l then Sum.inl () else Sum.inr false):=by
  unfold Ir
  refine TU (fun i hi=>?_) ?_ (by omega)
  ·unfold nX
   rw [bT,dT (by omega),nC,iU hi,bS,show OZ l 0 (i:Int)=some ((l.take i).drop 0) from NJ (a:=0) (Nat.zero_le _) (by omega),bS,List.drop_zero]
   have hti:(l.take i).length=i:=by rw [List.length_take];omega
   have h2:dB (nY N p l[i] (l.take i)) N 0=some (bif (l.take i).all (fun y=>!sZ p l[i] y) then Sum.inl () else Sum.inr false):=by
    refine EO (fun j hj=>?_) ?_ (by omega)
    ·unfold nY
     rw [bT,dT (by omega),nC,iU hj,bS,Iu hp hN,bS,qy (by omega)]
     cases sZ p l[i] (l.take i)[j] <;> rfl
    ·unfold nY
     rw [bT,dF (by omega),lI]
   have hlk:=hk _ (List.getElem_mem hi)
   have h1:dB (nZ N l l[i]) N 0=some (bif l[i].Locks.all (fun k=>l.any fun y=>decide (y.Name=k)) then Sum.inl () else Sum.inr false):=by
    refine EO (fun j hj=>?_) ?_ (by omega)
    ·unfold nZ jG
     rw [bT,dT (by omega),nC,iU hj,bS,L9 (g:=fun y=>decide (y.Name=l[i].Locks[j])) (fun y=>by unfold qI;rw [qZ]) hl hN,bS,VG,bS,qy (by omega)]
     cases l.any (fun y=>decide (y.Name=l[i].Locks[j])) <;> rfl
    ·unfold nZ
     rw [bT,dF (by omega),lI]
   rw [h2,h1,Dw hi,qy (by omega),bS]
   cases (l.take i).all (fun y=>!sZ p l[i] y) with
   | false=>rfl
   | true=>cases l[i].Locks.all (fun k=>l.any fun y=>decide (y.Name=k)) <;> rfl
  ·unfold nX
   rw [bT,dF (by omega),lI]
 unfold rP
 rw [h3]
 cases Ir p l <;> rfl
def eC (p:GPermitPlan) (l:List Str) (i:Nat):Int:=if kH p l[i]! = false then 6 else if GU (l.take i) l[i]! = true then 5 else 0
def RU (p:GPermitPlan) (l:List Str):Int:=fE (eC p l) l.length 0
def RX (p:GPermitPlan) (l:List Str):Bool×Int:=if qf p≠0 then (false,qf p) else if RU p l=0 then (Ir p (l.map (qo p)),0) else (false,RU p l)
theorem Bq {N:Nat} {p:GPermitPlan} {l:List Str} (hp:EP p) (hl:l.length<1000000) (hN:1000000≤N):nD N p l=some (RX p l):=by
  have hlim:lim ≥ 10000000:=by decide
  have hm:=hp.m
  unfold nD RX
  rw [GH hp hN,bS,ru]
  by_cases h:qf p=0
  · rw [dT h, if_neg (by simp [h]), Bool.not_true, lI]
    have hloop:=Hz (N:=N) (f:=mM N p l) (n:=l.length) (e:=eC p l) (fin:=Sum.inl (l.map (qo p))) (err:=fun e=>Sum.inr (false,e)) (fun i=>((l.take i).map (qo p),(i:Int))) (fun i hi _=>by
      unfold mM eC
      simp only []
      rw [bT,dT (by omega),nC,iU hi,bS,yS (by omega) hN,bS,Ci,Dw hi]
      show (bif !kH p l[i] then _ else _)=_
      cases hh:kH p l[i] with
      | false=>rfl
      | true =>
        simp only [Bool.not_true,lI]
        have hti:(l.take i).length=i:=by rw [List.length_take];omega
        rw [show OZ l 0 (i:Int)=some ((l.take i).drop 0) from NJ (a:=0) (Nat.zero_le _) (by omega),bS,List.drop_zero,GI (by omega) hN,bS]
        cases GU (l.take i) l[i] with
        | true=>rfl
        | false =>
          rw [lI,FN (by rw [List.length_map,hti];simp only [List.length_singleton];omega),bS,qy (by omega),List.take_succ_eq_append_getElem hi,List.map_append];rfl) (fun _=>by
      unfold mM
      simp only []
      rw [bT,dF (by omega),lI,List.take_length]) (by omega)
    rw [show (([]:List aG),(0:Int))=((l.take 0).map (qo p),((0:Nat):Int)) from by simp,hloop]
    unfold RU rD
    by_cases he:fE (eC p l) l.length 0=0
    · rw [if_pos he, if_pos he, bS, Sum.elim_inl, Pn hp (by rw [List.length_map]; exact hl) (fun x hx => ?_) hN]
      · rfl
      · obtain ⟨s,hs,rfl⟩:=List.mem_map.1 hx
        obtain ⟨j,hj,rfl⟩:=List.getElem_of_mem hs
        have:=yB he j (by omega) (by omega)
        unfold eC at this
        rw [Dw hj] at this
        split at this
        · cases this
        · rename_i hh;exact hp.l _ (uP (by simpa using hh)).1
    · rw [if_neg he,if_neg he];rfl
  · rw [dF h,if_pos h];rfl
end Go.KB
