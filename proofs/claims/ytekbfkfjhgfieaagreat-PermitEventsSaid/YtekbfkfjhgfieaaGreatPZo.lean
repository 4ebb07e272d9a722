/- Plain laws of chapter 7: near, exclusion and needs of the reference. Plain laws of chapter 7: which sets of permits are possible. No condition. -/
import Derived.Test.YtekbfkfjhgfieaaGreatPZn
namespace Go.KB
set_option linter.unusedVariables false
theorem SS {N:Nat} {y:dn} {s:Str} (hl:y.Next.length<1000000) (hN:1000000≤N):yh N y s=some (DR y.Next s):=by
 unfold yh
 have e:DR y.Next s=y.Next.any (fun x=>decide (x=s)):=by
  unfold DR;congr 1;funext x;exact decide_eq_decide.2 ⟨Eq.symm,Eq.symm⟩
 rw [e]
 refine Ol (fun i hi=>?_) ?_ (by omega)
 ·unfold wL
  rw [bQ,dT (by omega),cond_true,ji hi,bS,qM,qw (by omega)]
 ·unfold wL
  rw [bQ,dF (by omega),cond_false]
theorem VI {p:GPermitPlan} {s:Str} (h:vW p s=true):idx p.bG (Gg (isS s) p.bG)=some (yx p s):=by
 obtain ⟨i,hi,e1,e2⟩:=ixS h
 rw [e1,zk hi,e2]
theorem Ak {N:Nat} {p:GPermitPlan} {a b:Str} (hp:EZ p) (ha:vW p a=true) (hb:vW p b=true) (hN:1000000≤N):lI N p a b=some (kJ p a b):=by
  have hs:=hp.s
  have h1:=hp.next a
  have h2:=hp.next b
  unfold lI kJ
  rw [qM]
  by_cases h:a=b
  · rw [dT h,if_pos h];rfl
  · rw [dF h, if_neg h, cond_false, yB (by omega) hN, bS, VI ha, bS, SS (by omega) hN, bS, yB (by omega) hN]
    cases DR (yx p a).Next b with
    | true=>rfl
    | false =>
      simp only [Bool.not_false,cond_true,bS,VI hb,SS (show (yx p b).Next.length<1000000 by omega) hN]
      cases DR (yx p b).Next a <;> rfl
theorem QD {N:Nat} {p:GPermitPlan} {i k:Nat} (hp:EZ p) (ho:DN p) (hi:i<p.aj.length) (hk:k<p.aj.length) (hN:1000000≤N):uy N p (i:Int) (k:Int)=some (wX p p.aj[i]! p.aj[k]!):=by
  have hx:=hp.x
  unfold uy wX
  rw [jr]
  by_cases h:i=k
  · subst h;rw [dT rfl,dT rfl];rfl
  · rw [dF (by omega), dF (fun e => h (ho.pd i k hi hk e)), cond_false, cond_false, zk hi, bS, zk hk, bS, Ak hp (ho.pk _ (qL hi)).2.2.2.2 (ho.pk _ (qL hk)).2.2.2.2 hN, bS]
    refine Ol (fun j hj=>?_) ?_ (by omega)
    · unfold tV exE
      rw [bQ,dT (by omega),cond_true,ji hj,bS,qw (by omega)]
      simp only [vG,jr]
      rw [Bool.and_comm]
    · unfold tV
      rw [bQ,dF (by omega),cond_false]
def plS (p:GPermitPlan) (x:aG):List Nat:=(List.range p.bG.length).filter fun k=>decide (kJ p x.Space p.bG[k]!.Name=1)
def OT (p:GPermitPlan) (x:aG):List Int:=bif zQ x then Gg (isS x.Space) p.bG :: (bif decide (x.Kind=0) then (plS p x).map (fun (k:Nat)=>(k:Int)) else []) else []
theorem UJ {N:Nat} {p:GPermitPlan} {i:Nat} (hp:EZ p) (ho:DN p) (hi:i<p.aj.length) (hN:1000000≤N):wM N p (i:Int)=some (OT p p.aj[i]!):=by
  have hs:=hp.s
  have hlim:lim ≥ 1000000:=by decide
  unfold wM OT
  rw [zk hi,bS]
  have hk:(((aF .neq p.aj[i]!.Kind 0)&&(aF .neq p.aj[i]!.Kind 1))&&(aF .neq p.aj[i]!.Kind 2)) = !zQ p.aj[i]!:=by
    unfold zQ;simp only [uK,Bool.not_or,Bool.and_assoc]
  rw [hk]
  cases zQ p.aj[i]! with
  | false=>rfl
  | true =>
    simp only [Bool.not_true,cond_false,cond_true]
    rw [yB (by omega) hN,bS]
    have hsp:vW p p.aj[i]!.Space=true:=(ho.pk _ (qL hi)).2.2.2.2
    by_cases h0:p.aj[i]!.Kind=0
    · rw [CW (f := pV N p p.aj[i]!) (List.range p.bG.length) [Gg (isS p.aj[i]!.Space) p.bG] (fun k => decide (kJ p p.aj[i]!.Space p.bG[k]!.Name = 1)) (fun (k : Nat) => (k : Int)) (fun a i => (a, i)) (fun a => a) (fun j hj acc hacc => ?_) (fun acc => ?_) (by simp; omega)]
      · rw [dT h0];rfl
      · rw [List.length_range] at hj hacc
        unfold pV
        simp only [List.getElem_range]
        rw [bQ,dT (by omega),jr,dT h0,Bool.true_and,cond_true,zk hj,bS,Ak hp hsp (SV.2 ⟨_,qL hj,rfl⟩) hN,bS,jr,qw (by omega)]
        cases decide (kJ p p.aj[i]!.Space p.bG[j]!.Name=1) with
        | false=>rfl
        | true=>simp only [cond_true];rw [zW (by simp only [List.length_singleton] at hacc ⊢;omega)];rfl
      · rw [List.length_range]
        unfold pV
        simp only []
        rw [bQ,dF (by omega),Bool.false_and,cond_false]
    · rw [dF h0,cond_false]
      obtain ⟨M,rfl⟩:∃ M,N=M+1:=⟨N - 1,by omega⟩
      have e:pV (M+1) p p.aj[i]! ([Gg (isS p.aj[i]!.Space) p.bG],0)=some (.inr [Gg (isS p.aj[i]!.Space) p.bG]):=by
        unfold pV
        simp only []
        rw [jr,dF h0,Bool.and_false,cond_false]
      simp only [dU,e];rfl
theorem QC {α:Type} [Inhabited α] {β:Type} (g:α→Bool) (h:α→β) (l:List α):(((List.range l.length).filter fun k=>g l[k]!).map fun k=>h l[k]!)=(l.filter g).map h:=by
 have:l=(List.range l.length).map fun k=>l[k]!:=by
  refine List.ext_getElem (by simp) fun i h1 h2=>?_
  simp at h2
  simp [h1]
 conv=>rhs;rw [this]
 rw [List.filter_map,List.map_map];rfl
theorem UI {N:Nat} {l:List Str} (hl:l.length<1000000) (hN:1000000≤N):xI N l l=some true:=by
 unfold xI
 rw [uK,dT rfl,Bool.not_true,cond_false]
 have h:((dU (uU N l l) N 0).bind fun o=>Sum.elim (fun _=>some true) (fun r=>some r) o)=some (l.all fun _=>true):=by
  refine SX (fun i hi=>?_) ?_ (by omega)
  ·unfold uU
   rw [bQ,dT (by omega),cond_true,ji hi,bS,bS,SY,dT rfl,qw (by omega)];rfl
  ·unfold uU
   rw [bQ,dF (by omega),cond_false]
 rw [h];simp
end Go.KB
namespace Go.KB
set_option linter.unusedVariables false
end Go.KB
