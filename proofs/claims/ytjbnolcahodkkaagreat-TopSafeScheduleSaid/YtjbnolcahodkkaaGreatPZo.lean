/- Plain laws of chapter 7: near, exclusion and needs of the reference. Plain laws of chapter 7: which sets of permits are possible. No condition. -/
import Derived.Test.YtjbnolcahodkkaaGreatPZn
namespace Go.KB
set_option linter.unusedVariables false
end Go.KB
namespace Go.KB
set_option linter.unusedVariables false
theorem PW {α:Type} {l:List α} {N:Nat} {f:Int→Option (Int ⊕ (Unit ⊕ Bool))} {g:α→Bool} (hf:∀ (i:Nat) (h:i<l.length),f (i:Int)=bif g l[i] then some (.inl ((i+1:Nat):Int)) else some (.inr (.inr false))) (he:f (l.length:Int)=some (.inr (.inl ()))) (hN:l.length<N) :
  dh f N 0=some (bif l.all g then Sum.inl () else Sum.inr false):=by
 rw [Zj (fun i=>bif (l.drop i).all g then .inl () else .inr false) (fun i hi=>?_) (by simp [he]) hN]
 ·rw [List.drop_zero]
 ·rw [hf i hi]
  simp only [drop_at hi,List.all_cons]
  cases g l[i]
  ·exact .inr rfl
  ·exact .inl ⟨rfl,by simp⟩
theorem jQy {n N:Nat} {f:Int→Option (Int ⊕ (Unit ⊕ Bool))} {g:Nat→Bool} (hf:∀ (i:Nat),i<n→f (i:Int)=bif g i then some (.inl ((i+1:Nat):Int)) else some (.inr (.inr false))) (he:f (n:Int)=some (.inr (.inl ()))) (hN:n<N) :
  dh f N 0=some (bif (List.range n).all g then Sum.inl () else Sum.inr false) :=
 PW (l:=List.range n) (fun i hi=>by rw [List.getElem_range];exact hf i (by simpa using hi)) (by rw [List.length_range];exact he) (by rw [List.length_range];exact hN)
def Qj (p:ax) (l:List aQ):Bool:=(List.range l.length).all fun i=>(l.take i).all (fun y=>!xN p l[i]! y)&&l[i]!.Locks.all (fun k=>l.any fun y=>decide (y.Name=k))
theorem jJ1 {p:ax} {l:List aQ}:Qj p l=true↔(∀ x ∈ l,∀ y ∈ l,xN p x y=false)∧∀ x ∈ l,∀ k ∈ x.Locks,∃ y ∈ l,y.Name=k:=by
 unfold Qj
 simp only [List.all_eq_true,Bool.and_eq_true,List.mem_range,List.any_eq_true,decide_eq_true_eq,Bool.not_eq_true']
 constructor
 ·intro h
  have key:∀ i j,i<j→j<l.length→xN p l[j]! l[i]! = false:=fun i j hij hj=>(h j hj).1 _ (by
   rw [uX (show i<l.length by omega)]
   exact List.mem_take_iff_getElem.2 ⟨i,by omega,rfl⟩)
  refine ⟨fun x hx y hy=>?_,fun x hx k hk=>?_⟩
  ·obtain ⟨i,hi,rfl⟩:=List.getElem_of_mem hx
   obtain ⟨j,hj,rfl⟩:=List.getElem_of_mem hy
   rw [← uX hi,← uX hj]
   rcases Nat.lt_trichotomy i j with h1 | h1 | h1
   ·rw [N7];exact key i j h1 hj
   ·subst h1;exact Zg p _
   ·exact key j i h1 hi
  ·obtain ⟨i,hi,rfl⟩:=List.getElem_of_mem hx
   exact (h i hi).2 k (by rw [uX hi];exact hk)
 ·rintro ⟨h1,h2⟩ i hi
  exact ⟨fun y hy=>h1 _ (DT hi) y (List.mem_of_mem_take hy),fun k hk=>h2 _ (DT hi) k hk⟩
theorem XH {N:Nat} {p:ax} {l:List aQ} (hp:NV p) (hl:l.length<1000000) (hk:∀ x ∈ l,x.Locks.length<1000) (hN:1000000≤N):yP N p l=some (Qj p l):=by
 have h3:dh (tu N p l) N 0=some (bif Qj p l then Sum.inl () else Sum.inr false):=by
  unfold Qj
  refine jQy (fun i hi=>?_) ?_ (by omega)
  ·unfold tu
   rw [bM,dT (by omega),kS,jm hi,bS,show TL l 0 (i:Int)=some ((l.take i).drop 0) from PL (a:=0) (Nat.zero_le _) (by omega),bS,List.drop_zero]
   have hti:(l.take i).length=i:=by rw [List.length_take];omega
   have h2:dh (tC N p l[i] (l.take i)) N 0=some (bif (l.take i).all (fun y=>!xN p l[i] y) then Sum.inl () else Sum.inr false):=by
    refine PW (fun j hj=>?_) ?_ (by omega)
    ·unfold tC
     rw [bM,dT (by omega),kS,jm hj,bS,Qk hp hN,bS,oJ (by omega)]
     cases xN p l[i] (l.take i)[j] <;> rfl
    ·unfold tC
     rw [bM,dF (by omega),kG]
   have hlk:=hk _ (List.getElem_mem hi)
   have h1:dh (tH N l l[i]) N 0=some (bif l[i].Locks.all (fun k=>l.any fun y=>decide (y.Name=k)) then Sum.inl () else Sum.inr false):=by
    refine PW (fun j hj=>?_) ?_ (by omega)
    ·unfold tH lu
     rw [bM,dT (by omega),kS,jm hj,bS,UD (g:=fun y=>decide (y.Name=l[i].Locks[j])) (fun y=>by unfold xg;rw [rD]) hl hN,bS,PI,bS,oJ (by omega)]
     cases l.any (fun y=>decide (y.Name=l[i].Locks[j])) <;> rfl
    ·unfold tH
     rw [bM,dF (by omega),kG]
   rw [h2,h1,uX hi,oJ (by omega),bS]
   cases (l.take i).all (fun y=>!xN p l[i] y) with
   | false=>rfl
   | true=>cases l[i].Locks.all (fun k=>l.any fun y=>decide (y.Name=k)) <;> rfl
  ·unfold tu
   rw [bM,dF (by omega),kG]
 unfold yP
 rw [h3]
 cases Qj p l <;> rfl
def eC (p:ax) (l:List Str) (i:Nat):Int:=if pF p l[i]! = false then 6 else if BV (l.take i) l[i]! = true then 5 else 0
def Xo (p:ax) (l:List Str):Int:=jb (eC p l) l.length 0
def ZQ (p:ax) (l:List Str):Bool×Int:=if vP p≠0 then (false,vP p) else if Xo p l=0 then (Qj p (l.map (xK p)),0) else (false,Xo p l)
theorem TP {N:Nat} {p:ax} {l:List Str} (hp:NV p) (hl:l.length<1000000) (hN:1000000≤N):uo N p l=some (ZQ p l):=by
  have hlim:lim ≥ 10000000:=by decide
  have hm:=hp.m
  unfold uo ZQ
  rw [JZ hp hN,bS,wP]
  by_cases h:vP p=0
  · rw [dT h, if_neg (by simp [h]), Bool.not_true, kG]
    have hloop:=PV (N:=N) (f:=qO N p l) (n:=l.length) (e:=eC p l) (fin:=Sum.inl (l.map (xK p))) (err:=fun e=>Sum.inr (false,e)) (fun i=>((l.take i).map (xK p),(i:Int))) (fun i hi _=>by
      unfold qO eC
      simp only []
      rw [bM,dT (by omega),kS,jm hi,bS,EN (by omega) hN,bS,Jm,uX hi]
      show (bif !pF p l[i] then _ else _)=_
      cases hh:pF p l[i] with
      | false=>rfl
      | true =>
        simp only [Bool.not_true,kG]
        have hti:(l.take i).length=i:=by rw [List.length_take];omega
        rw [show TL l 0 (i:Int)=some ((l.take i).drop 0) from PL (a:=0) (Nat.zero_le _) (by omega),bS,List.drop_zero,CG (by omega) hN,bS]
        cases BV (l.take i) l[i] with
        | true=>rfl
        | false =>
          rw [kG,DW (by rw [List.length_map,hti];simp only [List.length_singleton];omega),bS,oJ (by omega),List.take_succ_eq_append_getElem hi,List.map_append];rfl) (fun _=>by
      unfold qO
      simp only []
      rw [bM,dF (by omega),kG,List.take_length]) (by omega)
    rw [show (([]:List aQ),(0:Int))=((l.take 0).map (xK p),((0:Nat):Int)) from by simp,hloop]
    unfold Xo Dk
    by_cases he:jb (eC p l) l.length 0=0
    · rw [if_pos he, if_pos he, bS, Sum.elim_inl, XH hp (by rw [List.length_map]; exact hl) (fun x hx => ?_) hN]
      · rfl
      · obtain ⟨s,hs,rfl⟩:=List.mem_map.1 hx
        obtain ⟨j,hj,rfl⟩:=List.getElem_of_mem hs
        have:=Em he j (by omega) (by omega)
        unfold eC at this
        rw [uX hj] at this
        split at this
        · cases this
        · rename_i hh;exact hp.l _ (CB (by simpa using hh)).1
    · rw [if_neg he,if_neg he];rfl
  · rw [dF h,if_pos h];rfl
end Go.KB
