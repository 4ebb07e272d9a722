/- Plain laws of chapter 7: near, exclusion and needs of the reference. Plain laws of chapter 7: which sets of permits are possible. No condition. -/
import Derived.Test.YtekbfkfjhgfieaaGreatPZn
namespace Go.KB
set_option linter.unusedVariables false
theorem Vg {N:Nat} {y:dH} {s:Str} (hl:y.Next.length<1000000) (hN:1000000≤N):zN N y s=some (FI y.Next s):=by
 unfold zN
 have e:FI y.Next s=y.Next.any (fun x=>decide (x=s)):=by
  unfold FI;congr 1;funext x;exact decide_eq_decide.2 ⟨Eq.symm,Eq.symm⟩
 rw [e]
 refine Qz (fun i hi=>?_) ?_ (by omega)
 ·unfold yG
  rw [bU,dT (by omega),lW,jK hi,bS,ru,qX (by omega)]
 ·unfold yG
  rw [bU,dF (by omega),mD]
theorem XM {p:GPermitPlan} {s:Str} (h:uY p s=true):idx p.bM (Hq (isS s) p.bM)=some (yN p s):=by
 obtain ⟨i,hi,e1,e2⟩:=ixS h
 rw [e1,zK hi,e2]
theorem CS {N:Nat} {p:GPermitPlan} {a b:Str} (hp:FW p) (ha:uY p a=true) (hb:uY p b=true) (hN:1000000≤N):nI N p a b=some (lI p a b):=by
  have hs:=hp.s
  have h1:=hp.next a
  have h2:=hp.next b
  unfold nI lI
  rw [ru]
  by_cases h:a=b
  · rw [dT h,if_pos h];rfl
  · rw [dF h, if_neg h, mD, wF (by omega) hN, bS, XM ha, bS, Vg (by omega) hN, bS, wF (by omega) hN]
    cases FI (yN p a).Next b with
    | true=>rfl
    | false =>
      simp only [Bool.not_false,lW,bS,XM hb,Vg (show (yN p b).Next.length<1000000 by omega) hN]
      cases FI (yN p b).Next a <;> rfl
theorem TD {N:Nat} {p:GPermitPlan} {i k:Nat} (hp:FW p) (ho:EQ p) (hi:i<p.ak.length) (hk:k<p.ak.length) (hN:1000000≤N):wC N p (i:Int) (k:Int)=some (yA p p.ak[i]! p.ak[k]!):=by
  have hx:=hp.x
  unfold wC yA
  rw [jS]
  by_cases h:i=k
  · subst h;rw [dT rfl,dT rfl];rfl
  · rw [dF (by omega), dF (fun e => h (ho.pd i k hi hk e)), mD, mD, zK hi, bS, zK hk, bS, CS hp (ho.pk _ (rC hi)).2.2.2.2 (ho.pk _ (rC hk)).2.2.2.2 hN, bS]
    refine Qz (fun j hj=>?_) ?_ (by omega)
    · unfold vO exE
      rw [bU,dT (by omega),lW,jK hj,bS,qX (by omega)]
      simp only [wM,jS]
      rw [Bool.and_comm]
    · unfold vO
      rw [bU,dF (by omega),mD]
def plS (p:GPermitPlan) (x:aH):List Nat:=(List.range p.bM.length).filter fun k=>decide (lI p x.Space p.bM[k]!.Name=1)
def Q5 (p:GPermitPlan) (x:aH):List Int:=bif BQ x then Hq (isS x.Space) p.bM :: (bif decide (x.Kind=0) then (plS p x).map (fun (k:Nat)=>(k:Int)) else []) else []
theorem WO {N:Nat} {p:GPermitPlan} {i:Nat} (hp:FW p) (ho:EQ p) (hi:i<p.ak.length) (hN:1000000≤N):yH N p (i:Int)=some (Q5 p p.ak[i]!):=by
  have hs:=hp.s
  have hlim:lim ≥ 1000000:=by decide
  unfold yH Q5
  rw [zK hi,bS]
  have hk:(((aG .neq p.ak[i]!.Kind 0)&&(aG .neq p.ak[i]!.Kind 1))&&(aG .neq p.ak[i]!.Kind 2)) = !BQ p.ak[i]!:=by
    unfold BQ;simp only [wu,Bool.not_or,Bool.and_assoc]
  rw [hk]
  cases BQ p.ak[i]! with
  | false=>rfl
  | true =>
    simp only [Bool.not_true,mD,lW]
    rw [wF (by omega) hN,bS]
    have hsp:uY p p.ak[i]!.Space=true:=(ho.pk _ (rC hi)).2.2.2.2
    by_cases h0:p.ak[i]!.Kind=0
    · rw [CQ (f := rG N p p.ak[i]!) (List.range p.bM.length) [Hq (isS p.ak[i]!.Space) p.bM] (fun k => decide (lI p p.ak[i]!.Space p.bM[k]!.Name = 1)) (fun (k : Nat) => (k : Int)) (fun a i => (a, i)) (fun a => a) (fun j hj acc hacc => ?_) (fun acc => ?_) (by simp; omega)]
      · rw [dT h0];rfl
      · rw [List.length_range] at hj hacc
        unfold rG
        simp only [List.getElem_range]
        rw [bU,dT (by omega),jS,dT h0,Bool.true_and,lW,zK hj,bS,CS hp hsp (Qm.2 ⟨_,rC hj,rfl⟩) hN,bS,jS,qX (by omega)]
        cases decide (lI p p.ak[i]!.Space p.bM[j]!.Name=1) with
        | false=>rfl
        | true=>simp only [lW];rw [A7 (by simp only [List.length_singleton] at hacc ⊢;omega)];rfl
      · rw [List.length_range]
        unfold rG
        simp only []
        rw [bU,dF (by omega),Bool.false_and,mD]
    · rw [dF h0,mD]
      obtain ⟨M,rfl⟩:∃ M,N=M+1:=⟨N - 1,by omega⟩
      have e:rG (M+1) p p.ak[i]! ([Hq (isS p.ak[i]!.Space) p.bM],0)=some (.inr [Hq (isS p.ak[i]!.Space) p.bM]):=by
        unfold rG
        simp only []
        rw [jS,dF h0,Bool.and_false,mD]
      simp only [dX,e];rfl
theorem TB {α:Type} [Inhabited α] {β:Type} (g:α→Bool) (h:α→β) (l:List α):(((List.range l.length).filter fun k=>g l[k]!).map fun k=>h l[k]!)=(l.filter g).map h:=by
 have:l=(List.range l.length).map fun k=>l[k]!:=by
  refine List.ext_getElem (by simp) fun i h1 h2=>?_
  simp at h2
  simp [h1]
 conv=>rhs;rw [this]
 rw [List.filter_map,List.map_map];rfl
theorem Iz {N:Nat} {l:List Str} (hl:l.length<1000000) (hN:1000000≤N):qA N l l=some true:=by
 unfold qA
 rw [wu,dT rfl,Bool.not_true,mD]
 have h:((dX (xh N l l) N 0).bind fun o=>Sum.elim (fun _=>some true) (fun r=>some r) o)=some (l.all fun _=>true):=by
  refine Qj (fun i hi=>?_) ?_ (by omega)
  ·unfold xh
   rw [bU,dT (by omega),lW,jK hi,bS,bS,Vh,dT rfl,qX (by omega)];rfl
  ·unfold xh
   rw [bU,dF (by omega),mD]
 rw [h];simp
end Go.KB
namespace Go.KB
set_option linter.unusedVariables false
end Go.KB
