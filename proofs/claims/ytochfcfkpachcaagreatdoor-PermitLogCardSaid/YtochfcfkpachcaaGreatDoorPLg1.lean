/- An office whose refused events are left out: time that passes in two steps, and what the accepted events do by themselves. No condition. -/
import Derived.Test.YtochfcfkpachcaaGreatDoorPZq
namespace Go.KB
set_option linter.unusedVariables false
/- time goes on, and nothing else happens -/
def C9 (p:GPermitPlan) (A:AO) (t:Int):AO:=gZ p { A with now:=t }
def wd (A:AO) (d:List GEvent):AO:={ A with done:=d }
theorem atT_wd {p:GPermitPlan} {A:AO} {d:List GEvent} {t:Int}:C9 p (wd A d) t=wd (C9 p A t) d:=rfl
theorem wd_wd {A:AO} {d e:List GEvent}:wd (wd A d) e=wd A e:=rfl
theorem O3 {t t':Int} {e:ah} (h:t≤t'):yM t' (yM t e)=yM t' e:=by
  unfold yM
  by_cases h3:e.state≤3
  · by_cases h1 : e.wo ≤ t
    · rw [dT h3,dT h1,dT (show e.wo≤t' by omega)];rfl
    · simp [h3,h1]
  · simp [h3]
theorem O4 {t:Int} {e:ah}:(yM t e).state=2↔e.state=2∧t<e.wo:=by
  unfold yM
  by_cases h3:e.state≤3
  · by_cases h1 : e.wo ≤ t
    · rw [dT h3,dT h1];simp;omega
    · rw [dT h3,dF h1];simp;omega
  · rw [dF h3];simp;omega
theorem Ib {p:GPermitPlan} {A:AO} {s:Str} (h:lZ p s=true):(vI p A).es s=yM A.now (A.es s):=by
  unfold vI;simp only [];rw [h];rfl
theorem Zd {p:GPermitPlan} {A:AO} {s:Str} (h:yU p A (qJ p s)=false):(zD p A).es s=A.es s:=by
  unfold zD;simp only [];rw [h,Bool.and_false];rfl
theorem jJm {p:GPermitPlan} {A:AO} {x:aP} {s:Str} {t t':Int} (h:t≤t') (hg:Kz p { A with now:=t' } x s=true):Kz p { A with now:=t } x s=true:=by
  unfold Kz WE WG at hg ⊢
  simp only [] at hg ⊢
  generalize decide (x.Kind=0)=k at *
  generalize (zM p s).fG=en at *
  generalize A.ts s=q at *
  cases k <;> cases en <;> cases q <;> simp at hg ⊢ <;> omega
theorem jJn {p:GPermitPlan} {A:AO} {x:aP} {t t':Int} (h:t≤t') (hb:(Aq p { A with now:=t } x).isEmpty=false):(Aq p { A with now:=t' } x).isEmpty=false:=by
  cases he:(Aq p { A with now:=t' } x).isEmpty with
  | false=>rfl
  | true =>
    exfalso
    unfold Aq at hb he
    rw [List.isEmpty_iff,List.filter_eq_nil_iff] at he
    have:(List.filter (fun s=>!Kz p { A with now:=t } x s) (Ic p x))=[]:=List.filter_eq_nil_iff.2 fun s hs=>by
      have h1:=he s hs
      rw [Bool.not_eq_true,Bool.not_eq_false'] at h1
      rw [jJm h h1];decide
    rw [this] at hb;cases hb
theorem IG {p:GPermitPlan} {A:AO} {x:aP}:yU p A x=true↔(Aq p A x).isEmpty=false∨¬ ∀ l ∈ x.Locks,stA A l=2:=by
  unfold yU
  rw [Bool.or_eq_true,← WH]
  simp
theorem Ku {p:GPermitPlan} (hp:HY p) {A:AO} {t t':Int} (h:t≤t'):C9 p (C9 p A t) t'=C9 p A t':=by
  have hes:(C9 p (C9 p A t) t').es=(C9 p A t').es:=by
    funext s
    cases hs:lZ p s with
    | false =>
      have e:∀ B:AO,(gZ p B).es s=B.es s:=fun B=>by
        unfold gZ zD vI
        simp only []
        rw [hs];rfl
      show (gZ p _).es s=(gZ p _).es s
      rw [e,e]
      show (gZ p _).es s=_
      rw [e]
    | true =>
      obtain ⟨hx,hn⟩:=zk hs
      -- the locks
      have hlk:∀ l ∈ (qJ p s).Locks,((vI p { (C9 p A t) with now:=t' }).es l=(vI p { A with now:=t' }).es l)∧(stA (vI p { A with now:=t' }) l=2→stA (vI p { A with now:=t }) l=2):=by
        intro l hl
        obtain ⟨h5,h6,_⟩:=hp.lk _ hx l hl
        have hb:∀ B:AO,yU p B (qJ p l)=false:=fun B=>O5 hp (zk h5).1 h6
        constructor
        · rw [Ib h5,Ib h5]
          show yM t' ((zD p (vI p { A with now:=t })).es l)=yM t' (A.es l)
          rw [Zd (hb _),Ib h5]
          exact O3 h
        · unfold stA
          rw [Ib h5,Ib h5,O4,O4]
          show (A.es l).state=2∧t'<(A.es l).wo→(A.es l).state=2∧t<(A.es l).wo
          intro ⟨a,b⟩;exact ⟨a,by omega⟩
      have hlack:Aq p (vI p { (C9 p A t) with now:=t' }) (qJ p s)=Aq p (vI p { A with now:=t' }) (qJ p s):=rfl
      have hb2:yU p (vI p { (C9 p A t) with now:=t' }) (qJ p s)=yU p (vI p { A with now:=t' }) (qJ p s):=by
        rw [Bool.eq_iff_iff,IG,IG,hlack]
        have:(∀ l ∈ (qJ p s).Locks,stA (vI p { (C9 p A t) with now:=t' }) l=2)↔(∀ l ∈ (qJ p s).Locks,stA (vI p { A with now:=t' }) l=2):=by
          constructor
          · intro k l hl;have:=k l hl;unfold stA at this ⊢;rwa [(hlk l hl).1] at this
          · intro k l hl;have:=k l hl;unfold stA at this ⊢;rwa [(hlk l hl).1]
        rw [this]
      have hb1:yU p (vI p { A with now:=t }) (qJ p s)=true→yU p (vI p { A with now:=t' }) (qJ p s)=true:=by
        rw [IG,IG]
        rintro (k | k)
        · exact .inl (jJn (A:=vI p A) h k)
        · exact .inr fun k2=>k fun l hl=>(hlk l hl).2 (k2 l hl)
      show (zD p (vI p { (C9 p A t) with now:=t' })).es s=(zD p (vI p { A with now:=t' })).es s
      have e1:(vI p { (C9 p A t) with now:=t' }).es s=yM t' ((zD p (vI p { A with now:=t })).es s):=Ib hs
      have e0:(vI p { A with now:=t' }).es s=yM t' (A.es s):=Ib hs
      have e2:(vI p { A with now:=t }).es s=yM t (A.es s):=Ib hs
      cases hB1:yU p (vI p { A with now:=t }) (qJ p s) with
      | false =>
        have e3:(vI p { (C9 p A t) with now:=t' }).es s=(vI p { A with now:=t' }).es s:=by
          rw [e1,e0,Zd hB1,e2,O3 h]
        unfold zD stA
        simp only []
        rw [e3,hb2]
      | true =>
        have hB:=hb1 hB1
        have e4:(zD p (vI p { A with now:=t })).es s=bif decide ((yM t (A.es s)).state=2) then { A.es s with state:=3 } else yM t (A.es s):=by
          unfold zD stA
          simp only []
          rw [hs,hB1,e2,Bool.true_and,Bool.and_true]
          by_cases k:(yM t (A.es s)).state=2
          · rw [dT k]
            simp only [ni]
            unfold yM
            cases (decide ((A.es s).state≤3)&&decide ((A.es s).wo≤t)) <;> rfl
          · rw [dF k];rfl
        unfold zD stA
        simp only []
        rw [hs,hb2,hB,Bool.true_and,Bool.and_true,Bool.true_and,Bool.and_true,e0,e1,e4]
        by_cases k:(A.es s).state=2∧t<(A.es s).wo
        · rw [dT (O4.2 k),ni]
          by_cases k2:t'<(A.es s).wo
          · rw [dT (O4.2 ⟨k.1,k2⟩),ni]
            have a1:yM t' ({ A.es s with state:=3 }:ah)={ A.es s with state:=3 }:=by
              unfold yM;simp only [];rw [dF (show ¬ (A.es s).wo≤t' by omega),Bool.and_false];rfl
            have a2:yM t' (A.es s)=A.es s:=by
              unfold yM;rw [dF (show ¬ (A.es s).wo≤t' by omega),Bool.and_false];rfl
            rw [a1,a2,dF (show ¬ ({ A.es s with state:=3 }:ah).state=2 by simp),nN]
          · have a1:yM t' ({ A.es s with state:=3 }:ah)={ A.es s with state:=6 }:=by
              unfold yM;simp only [];rw [dT (show (A.es s).wo≤t' by omega),dT (show (3:Int)≤3 by decide)];rfl
            have a2:yM t' (A.es s)={ A.es s with state:=6 }:=by
              unfold yM;rw [dT (show (A.es s).wo≤t' by omega),dT (show (A.es s).state≤3 by omega)];rfl
            rw [a1,a2]
        · rw [dF (fun q=>k (O4.1 q)),nN,O3 h]
  calc C9 p (C9 p A t) t'=⟨t',(C9 p (C9 p A t) t').es,A.ts,A.pp,A.done⟩:=rfl
    _=⟨t',(C9 p A t').es,A.ts,A.pp,A.done⟩:=by rw [hes]
    _=C9 p A t':=rfl
end Go.KB
