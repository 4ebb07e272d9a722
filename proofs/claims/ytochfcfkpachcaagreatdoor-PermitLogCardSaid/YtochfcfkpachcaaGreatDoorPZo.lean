/- Plain laws of chapter 7: near, exclusion and needs of the reference. Plain laws of chapter 7: which sets of permits are possible. No condition. -/
import Derived.Test.YtochfcfkpachcaaGreatDoorPZn
namespace Go.KB
set_option linter.unusedVariables false
theorem JA {N:Nat} {l:List Str} (hl:l.length<1000000) (hN:1000000≤N):qJ N l l=some true:=by
 unfold qJ
 rw [qV,dT rfl,Bool.not_true,nN]
 have h:((eF (uT N l l) N 0).bind fun o=>Sum.elim (fun _=>some true) (fun r=>some r) o)=some (l.all fun _=>true):=by
  refine OV (fun i hi=>?_) ?_ (by omega)
  ·unfold uT
   rw [dw,dT (by omega),ni,jI hi,bS,bS,KC,dT rfl,rJ (by omega)];rfl
  ·unfold uT
   rw [dw,dF (by omega),nN]
 rw [h];simp
end Go.KB
namespace Go.KB
set_option linter.unusedVariables false
theorem XE {α:Type} {l:List α} {N:Nat} {f:Int→Option (Int ⊕ (Unit ⊕ Bool))} {g:α→Bool} (hf:∀ (i:Nat) (h:i<l.length),f (i:Int)=bif g l[i] then some (.inl ((i+1:Nat):Int)) else some (.inr (.inr false))) (he:f (l.length:Int)=some (.inr (.inl ()))) (hN:l.length<N) :
  eF f N 0=some (bif l.all g then Sum.inl () else Sum.inr false):=by
 rw [O9 (fun i=>bif (l.drop i).all g then .inl () else .inr false) (fun i hi=>?_) (by simp [he]) hN]
 ·rw [List.drop_zero]
 ·rw [hf i hi]
  simp only [drop_at hi,List.all_cons]
  cases g l[i]
  ·exact .inr rfl
  ·exact .inl ⟨rfl,by simp⟩
theorem XB {n N:Nat} {f:Int→Option (Int ⊕ (Unit ⊕ Bool))} {g:Nat→Bool} (hf:∀ (i:Nat),i<n→f (i:Int)=bif g i then some (.inl ((i+1:Nat):Int)) else some (.inr (.inr false))) (he:f (n:Int)=some (.inr (.inl ()))) (hN:n<N) :
  eF f N 0=some (bif (List.range n).all g then Sum.inl () else Sum.inr false) :=
 XE (l:=List.range n) (fun i hi=>by rw [List.getElem_range];exact hf i (by simpa using hi)) (by rw [List.length_range];exact he) (by rw [List.length_range];exact hN)
end Go.KB
