/- Plain laws of chapter 7: near, exclusion and needs of the reference. Plain laws of chapter 7: which sets of permits are possible. No condition. -/
import Derived.Test.YtalkbgomndhkmaaGreatPZn
namespace Go.KB
set_option linter.unusedVariables false
theorem UB {N:Nat} {y:dG} {s:Str} (hl:y.Next.length<1000000) (hN:1000000≤N):yX N y s=some (EQ y.Next s):=by
 unfold yX
 have e:EQ y.Next s=y.Next.any (fun x=>decide (x=s)):=by
  unfold EQ;congr 1;funext x;exact decide_eq_decide.2 ⟨Eq.symm,Eq.symm⟩
 rw [e]
 refine PK (fun i hi=>?_) ?_ (by omega)
 ·unfold xU
  rw [bW,dT (by omega),lQ,jd hi,bS,rJ,qx (by omega)]
 ·unfold xU
  rw [bW,dF (by omega),lT]
theorem Xe {p:GPermitPlan} {s:Str} (h:xw p s=true):idx p.bM (Il (isS s) p.bM)=some (y9 p s):=by
 obtain ⟨i,hi,e1,e2⟩:=ixS h
 rw [e1,zL hi,e2]
theorem Bz {N:Nat} {p:GPermitPlan} {a b:Str} (hp:EP p) (ha:xw p a=true) (hb:xw p b=true) (hN:1000000≤N):mG N p a b=some (kY p a b):=by
  have hs:=hp.s
  have h1:=hp.next a
  have h2:=hp.next b
  unfold mG kY
  rw [rJ]
  by_cases h:a=b
  · rw [dT h,if_pos h];rfl
  · rw [dF h, if_neg h, lT, zh (by omega) hN, bS, Xe ha, bS, UB (by omega) hN, bS, zh (by omega) hN]
    cases EQ (y9 p a).Next b with
    | true=>rfl
    | false =>
      simp only [Bool.not_false,lQ,bS,Xe hb,UB (show (y9 p b).Next.length<1000000 by omega) hN]
      cases EQ (y9 p b).Next a <;> rfl
theorem Sr {N:Nat} {p:GPermitPlan} {i k:Nat} (hp:EP p) (ho:Ee p) (hi:i<p.aj.length) (hk:k<p.aj.length) (hN:1000000≤N):vz N p (i:Int) (k:Int)=some (yg p p.aj[i]! p.aj[k]!):=by
  have hx:=hp.x
  unfold vz yg
  rw [iW]
  by_cases h:i=k
  · subst h;rw [dT rfl,dT rfl];rfl
  · rw [dF (by omega), dF (fun e => h (ho.pd i k hi hk e)), lT, lT, zL hi, bS, zL hk, bS, Bz hp (ho.pk _ (rH hi)).2.2.2.2 (ho.pk _ (rH hk)).2.2.2.2 hN, bS]
    refine PK (fun j hj=>?_) ?_ (by omega)
    · unfold uO exE
      rw [bW,dT (by omega),lQ,jd hj,bS,qx (by omega)]
      simp only [wK,iW]
      rw [Bool.and_comm]
    · unfold uO
      rw [bW,dF (by omega),lT]
def plS (p:GPermitPlan) (x:aH):List Nat:=(List.range p.bM.length).filter fun k=>decide (kY p x.Space p.bM[k]!.Name=1)
def Qn (p:GPermitPlan) (x:aH):List Int:=bif AY x then Il (isS x.Space) p.bM :: (bif decide (x.Kind=0) then (plS p x).map (fun (k:Nat)=>(k:Int)) else []) else []
theorem VU {N:Nat} {p:GPermitPlan} {i:Nat} (hp:EP p) (ho:Ee p) (hi:i<p.aj.length) (hN:1000000≤N):xW N p (i:Int)=some (Qn p p.aj[i]!):=by
  have hs:=hp.s
  have hlim:lim ≥ 1000000:=by decide
  unfold xW Qn
  rw [zL hi,bS]
  have hk:(((aF .neq p.aj[i]!.Kind 0)&&(aF .neq p.aj[i]!.Kind 1))&&(aF .neq p.aj[i]!.Kind 2)) = !AY p.aj[i]!:=by
    unfold AY;simp only [qN,Bool.not_or,Bool.and_assoc]
  rw [hk]
  cases AY p.aj[i]! with
  | false=>rfl
  | true =>
    simp only [Bool.not_true,lT,lQ]
    rw [zh (by omega) hN,bS]
    have hsp:xw p p.aj[i]!.Space=true:=(ho.pk _ (rH hi)).2.2.2.2
    by_cases h0:p.aj[i]!.Kind=0
    · rw [CP (f := qC N p p.aj[i]!) (List.range p.bM.length) [Il (isS p.aj[i]!.Space) p.bM] (fun k => decide (kY p p.aj[i]!.Space p.bM[k]!.Name = 1)) (fun (k : Nat) => (k : Int)) (fun a i => (a, i)) (fun a => a) (fun j hj acc hacc => ?_) (fun acc => ?_) (by simp; omega)]
      · rw [dT h0];rfl
      · rw [List.length_range] at hj hacc
        unfold qC
        simp only [List.getElem_range]
        rw [bW,dT (by omega),iW,dT h0,Bool.true_and,lQ,zL hj,bS,Bz hp hsp (UC.2 ⟨_,rH hj,rfl⟩) hN,bS,iW,qx (by omega)]
        cases decide (kY p p.aj[i]!.Space p.bM[j]!.Name=1) with
        | false=>rfl
        | true=>simp only [lQ];rw [Ah (by simp only [List.length_singleton] at hacc ⊢;omega)];rfl
      · rw [List.length_range]
        unfold qC
        simp only []
        rw [bW,dF (by omega),Bool.false_and,lT]
    · rw [dF h0,lT]
      obtain ⟨M,rfl⟩:∃ M,N=M+1:=⟨N - 1,by omega⟩
      have e:qC (M+1) p p.aj[i]! ([Il (isS p.aj[i]!.Space) p.bM],0)=some (.inr [Il (isS p.aj[i]!.Space) p.bM]):=by
        unfold qC
        simp only []
        rw [iW,dF h0,Bool.and_false,lT]
      simp only [dU,e];rfl
theorem Sm {α:Type} [Inhabited α] {β:Type} (g:α→Bool) (h:α→β) (l:List α):(((List.range l.length).filter fun k=>g l[k]!).map fun k=>h l[k]!)=(l.filter g).map h:=by
 have:l=(List.range l.length).map fun k=>l[k]!:=by
  refine List.ext_getElem (by simp) fun i h1 h2=>?_
  simp at h2
  simp [h1]
 conv=>rhs;rw [this]
 rw [List.filter_map,List.map_map];rfl
theorem VS {N:Nat} {l:List Str} (hl:l.length<1000000) (hN:1000000≤N):yG N l l=some true:=by
 unfold yG
 rw [qN,dT rfl,Bool.not_true,lT]
 have h:((dU (vZ N l l) N 0).bind fun o=>Sum.elim (fun _=>some true) (fun r=>some r) o)=some (l.all fun _=>true):=by
  refine UD (fun i hi=>?_) ?_ (by omega)
  ·unfold vZ
   rw [bW,dT (by omega),lQ,jd hi,bS,bS,UE,dT rfl,qx (by omega)];rfl
  ·unfold vZ
   rw [bW,dF (by omega),lT]
 rw [h];simp
end Go.KB
namespace Go.KB
set_option linter.unusedVariables false
theorem X6 {α:Type} {l:List α} {N:Nat} {f:Int→Option (Int ⊕ (Unit ⊕ Bool))} {g:α→Bool} (hf:∀ (i:Nat) (h:i<l.length),f (i:Int)=bif g l[i] then some (.inl ((i+1:Nat):Int)) else some (.inr (.inr false))) (he:f (l.length:Int)=some (.inr (.inl ()))) (hN:l.length<N) :
  dU f N 0=some (bif l.all g then Sum.inl () else Sum.inr false):=by
 rw [Kw (fun i=>bif (l.drop i).all g then .inl () else .inr false) (fun i hi=>?_) (by simp [he]) hN]
 ·rw [List.drop_zero]
 ·rw [hf i hi]
  simp only [drop_at hi,List.all_cons]
  cases g l[i]
  ·exact .inr rfl
  ·exact .inl ⟨rfl,by simp⟩
theorem XV {n N:Nat} {f:Int→Option (Int ⊕ (Unit ⊕ Bool))} {g:Nat→Bool} (hf:∀ (i:Nat),i<n→f (i:Int)=bif g i then some (.inl ((i+1:Nat):Int)) else some (.inr (.inr false))) (he:f (n:Int)=some (.inr (.inl ()))) (hN:n<N) :
  dU f N 0=some (bif (List.range n).all g then Sum.inl () else Sum.inr false) :=
 X6 (l:=List.range n) (fun i hi=>by rw [List.getElem_range];exact hf i (by simpa using hi)) (by rw [List.length_range];exact he) (by rw [List.length_range];exact hN)
end Go.KB
