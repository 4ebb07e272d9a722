/- The plain law of SurveyRenewals: it returns true for every panel and rule. No condition. -/
import Derived.Test.YtmkofmfndcoflaaPAw9
namespace Go.KB
set_option linter.unusedVariables false
theorem E8 {N:Nat} {l:List ak} (hl:l.length<1000000) (hN:1000000≤N):mF N l l=some true:=by
  have hloop:bD (jc N l l) N 0=some (.inl ()):=by
    refine pV l.length _ (fun i=>True) ?_ ?_ trivial N (by omega)
    · intro i hi _
      refine .inl ⟨?_,trivial⟩
      have he:ak.eqb l[i]! l[i]! = true:=by unfold ak.eqb;simp
      unfold jc
      rw [dh,dT (by omega),oC,xJ hi,bS,bS,he,uH (by omega)];rfl
    · intro _
      unfold jc
      rw [dh,dF (by omega),qo]
  unfold mF
  rw [jw,dT rfl,hloop];rfl
theorem law_SurveyRenewals (x0:GPanel) (x1:GRule) (h0:x0.ok) (h1:x1.ok):iZ (2 ^ 70) x0 x1=some true:=by
  have hN:2 ^ 64≤(2 ^ 70:Nat):=by decide
  unfold iZ
  rw [KZ,bS,Bool.not_true,qo]
  unfold qx
  rw [bS]
  cases hs:((ax .leq (List.length x0.Readings:Int) 410)&&(ax .leq (List.length x0.Name:Int) 50)) with
  | false=>rfl
  | true =>
    rw [Bool.not_true,Bool.false_or]
    simp only [Gm,Bool.and_eq_true,decide_eq_true_eq] at hs
    have hl:x0.Readings.length<9223372036854775807:=by omega
    cases ax .gtr (List.length x0.Readings:Int) 100 with
    | true=>rfl
    | false =>
      rw [qo,BK hl hN]
      by_cases hz:(if eX x0=0 then jO x1 else eX x0)=0
      · have he:eX x0=0:=by
          by_cases he:eX x0=0
          · exact he
          · rw [if_neg he] at hz;exact hz
        have hr:jO x1=0:=by rw [if_pos he] at hz;exact hz
        obtain ⟨C,R,c1,c2,c3,c4,c5,c6,c7,c8⟩:=Dk he
        obtain ⟨res,r1,r2,r3⟩:=Ed he hr hN c1 c2 c4 c5 c6 c7 c8
        rw [r1,bS,hz,bS,jw,rY,show (!decide ((0:Int)=0))=false from rfl,qo,show decide ((0:Int)=0)=true from rfl,oC,r2,bS,oC,E8 (show res.length<1000000 by have:=r3.len;omega) (by decide)];rfl
      · rw [Dl hl hN rfl hz,bS,bS,jw,dF hz,rY,dT rfl];rfl
end Go.KB
