/- An office whose refused events are left out: time that passes in two steps, and what the accepted events do by themselves. No condition. -/
import Derived.Test.YtochfcfkpachcaaGreatDoorPZq
namespace Go.KB
set_option linter.unusedVariables false
/- time goes on, and nothing else happens -/
def Dc (p:GPermitPlan) (A:AO) (t:Int):AO:=ig p { A with now:=t }
def wd (A:AO) (d:List GEvent):AO:={ A with done:=d }
theorem atT_wd {p:GPermitPlan} {A:AO} {d:List GEvent} {t:Int}:Dc p (wd A d) t=wd (Dc p A t) d:=rfl
theorem wd_wd {A:AO} {d e:List GEvent}:wd (wd A d) e=wd A e:=rfl
theorem O6 {t t':Int} {e:ah} (h:t≤t'):yM t' (yM t e)=yM t' e:=by
  unfold yM
  by_cases h3:e.state≤3
  · by_cases h1 : e.wo ≤ t
    · rw [dT h3,dT h1,dT (show e.wo≤t' by omega)];rfl
    · simp [h3,h1]
  · simp [h3]
theorem O7 {t:Int} {e:ah}:(yM t e).state=2↔e.state=2∧t<e.wo:=by
  unfold yM
  by_cases h3:e.state≤3
  · by_cases h1 : e.wo ≤ t
    · rw [dT h3,dT h1];simp;omega
    · rw [dT h3,dF h1];simp;omega
  · rw [dF h3];simp;omega
theorem Ic {p:GPermitPlan} {A:AO} {s:Str} (h:lZ p s=true):(vI p A).es s=yM A.now (A.es s):=by
  unfold vI;simp only [];rw [h];rfl
theorem Zd {p:GPermitPlan} {A:AO} {s:Str} (h:yU p A (qK p s)=false):(zD p A).es s=A.es s:=by
  unfold zD;simp only [];rw [h,Bool.and_false];rfl
theorem jJm {p:GPermitPlan} {A:AO} {x:aP} {s:Str} {t t':Int} (h:t≤t') (hg:KD p { A with now:=t' } x s=true):KD p { A with now:=t } x s=true:=by
  unfold KD WE WG at hg ⊢
  simp only [] at hg ⊢
  generalize decide (x.Kind=0)=k at *
  generalize (zM p s).fG=en at *
  generalize A.ts s=q at *
  cases k <;> cases en <;> cases q <;> simp at hg ⊢ <;> omega
theorem jJn {p:GPermitPlan} {A:AO} {x:aP} {t t':Int} (h:t≤t') (hb:(Aq p { A with now:=t } x).isEmpty=false):(Aq p { A with now:=t' } x).isEmpty=false:=by
  cases he:(Aq p { A with now:=t' } x).isEmpty with
  | false=>rfl
  | true =>
    exfalso
    unfold Aq at hb he
    rw [List.isEmpty_iff,List.filter_eq_nil_iff] at he
    have:(List.filter (fun s=>!KD p { A with now:=t } x s) (Ie p x))=[]:=List.filter_eq_nil_iff.2 fun s hs=>by
      have h1:=he s hs
      rw [Bool.not_eq_true,Bool.not_eq_false'] at h1
      rw [jJm h h1];decide
    rw [this] at hb;cases hb
theorem IJ {p:GPermitPlan} {A:AO} {x:aP}:yU p A x=true↔(Aq p A x).isEmpty=false∨¬ ∀ l ∈ x.Locks,stA A l=2:=by
  unfold yU
  rw [Bool.or_eq_true,← WH]
  simp
theorem Ky {p:GPermitPlan} (hp:H6 p) {A:AO} {t t':Int} (h:t≤t'):Dc p (Dc p A t) t'=Dc p A t':=by
  have hes:(Dc p (Dc p A t) t').es=(Dc p A t').es:=by
    funext s
    cases hs:lZ p s with
    | false =>
      have e:∀ B:AO,(ig p B).es s=B.es s:=fun B=>by
        unfold ig zD vI
        simp only []
        rw [hs];rfl
      show (ig p _).es s=(ig p _).es s
      rw [e,e]
      show (ig p _).es s=_
      rw [e]
    | true =>
      obtain ⟨hx,hn⟩:=zk hs
      -- the locks
      have hlk:∀ l ∈ (qK p s).Locks,((vI p { (Dc p A t) with now:=t' }).es l=(vI p { A with now:=t' }).es l)∧(stA (vI p { A with now:=t' }) l=2→stA (vI p { A with now:=t }) l=2):=by
        intro l hl
        obtain ⟨h5,h6,_⟩:=hp.lk _ hx l hl
        have hb:∀ B:AO,yU p B (qK p l)=false:=fun B=>O8 hp (zk h5).1 h6
        constructor
        · rw [Ic h5,Ic h5]
          show yM t' ((zD p (vI p { A with now:=t })).es l)=yM t' (A.es l)
          rw [Zd (hb _),Ic h5]
          exact O6 h
        · unfold stA
          rw [Ic h5,Ic h5,O7,O7]
          show (A.es l).state=2∧t'<(A.es l).wo→(A.es l).state=2∧t<(A.es l).wo
          intro ⟨a,b⟩;exact ⟨a,by omega⟩
      have hlack:Aq p (vI p { (Dc p A t) with now:=t' }) (qK p s)=Aq p (vI p { A with now:=t' }) (qK p s):=rfl
      have hb2:yU p (vI p { (Dc p A t) with now:=t' }) (qK p s)=yU p (vI p { A with now:=t' }) (qK p s):=by
        rw [Bool.eq_iff_iff,IJ,IJ,hlack]
        have:(∀ l ∈ (qK p s).Locks,stA (vI p { (Dc p A t) with now:=t' }) l=2)↔(∀ l ∈ (qK p s).Locks,stA (vI p { A with now:=t' }) l=2):=by
          constructor
          · intro k l hl;have:=k l hl;unfold stA at this ⊢;rwa [(hlk l hl).1] at this
          · intro k l hl;have:=k l hl;unfold stA at this ⊢;rwa [(hlk l hl).1]
        rw [this]
      have hb1:yU p (vI p { A with now:=t }) (qK p s)=true→yU p (vI p { A with now:=t' }) (qK p s)=true:=by
        rw [IJ,IJ]
        rintro (k | k)
        · exact .inl (jJn (A:=vI p A) h k)
        · exact .inr fun k2=>k fun l hl=>(hlk l hl).2 (k2 l hl)
      show (zD p (vI p { (Dc p A t) with now:=t' })).es s=(zD p (vI p { A with now:=t' })).es s
      have e1:(vI p { (Dc p A t) with now:=t' }).es s=yM t' ((zD p (vI p { A with now:=t })).es s):=Ic hs
      have e0:(vI p { A with now:=t' }).es s=yM t' (A.es s):=Ic hs
      have e2:(vI p { A with now:=t }).es s=yM t (A.es s):=Ic hs
      cases hB1:yU p (vI p { A with now:=t }) (qK p s) with
      | false =>
        have e3:(vI p { (Dc p A t) with now:=t' }).es s=(vI p { A with now:=t' }).es s:=by
          rw [e1,e0,Zd hB1,e2,O6 h]
        unfold zD stA
        simp only []
        rw [e3,hb2]
      | true =>
        have hB:=hb1 hB1
        have e4:(zD p (vI p { A with now:=t })).es s=bif decide ((yM t (A.es s)).state=2) then { A.es s with state:=3 } else yM t (A.es s):=by
          unfold zD stA
          simp only []
          rw [hs,hB1,e2,Bool.true_and,Bool.and_true]
          by_cases k:(yM t (A.es s)).state=2
          · rw [dT k]
            simp only [ni]
            unfold yM
            cases (decide ((A.es s).state≤3)&&decide ((A.es s).wo≤t)) <;> rfl
          · rw [dF k];rfl
        unfold zD stA
        simp only []
        rw [hs,hb2,hB,Bool.true_and,Bool.and_true,Bool.true_and,Bool.and_true,e0,e1,e4]
        by_cases k:(A.es s).state=2∧t<(A.es s).wo
        · rw [dT (O7.2 k),ni]
          by_cases k2:t'<(A.es s).wo
          · rw [dT (O7.2 ⟨k.1,k2⟩),ni]
            have a1:yM t' ({ A.es s with state:=3 }:ah)={ A.es s with state:=3 }:=by
              unfold yM;simp only [];rw [dF (show ¬ (A.es s).wo≤t' by omega),Bool.and_false];rfl
            have a2:yM t' (A.es s)=A.es s:=by
              unfold yM;rw [dF (show ¬ (A.es s).wo≤t' by omega),Bool.and_false];rfl
            rw [a1,a2,dF (show ¬ ({ A.es s with state:=3 }:ah).state=2 by simp),nN]
          · have a1:yM t' ({ A.es s with state:=3 }:ah)={ A.es s with state:=6 }:=by
              unfold yM;simp only [];rw [dT (show (A.es s).wo≤t' by omega),dT (show (3:Int)≤3 by decide)];rfl
            have a2:yM t' (A.es s)={ A.es s with state:=6 }:=by
              unfold yM;rw [dT (show (A.es s).wo≤t' by omega),dT (show (A.es s).state≤3 by omega)];rfl
            rw [a1,a2]
        · rw [dF (fun q=>k (O7.1 q)),nN,O6 h]
  calc Dc p (Dc p A t) t'=⟨t',(Dc p (Dc p A t) t').es,A.ts,A.pp,A.done⟩:=rfl
    _=⟨t',(Dc p A t').es,A.ts,A.pp,A.done⟩:=by rw [hes]
    _=Dc p A t':=rfl
end Go.KB
