/- Plain laws: panels and rules. No condition. -/
import Derived.Test.YtmkofmfndcoflaaPSurvey
import Derived.Test.YtmkofmfndcoflaaPZb
namespace Go.KB
set_option linter.unusedVariables false
def eX (p:GPanel):Int :=
  bif (!kV p.Name) then 4 else (bif (((ax .lss p.Rows 1)||(ax .lss p.gW 1))||(!Fa 100 20000 p.ku)) then 2 else (bif (((ax .gtr p.Rows 400)||(ax .gtr p.gW 400))||(ax .gtr (IntKind.i64.wrap (p.Rows * p.gW)) 400)) then 8 else (bif (ax .neq (List.length p.Readings:Int) (IntKind.i64.wrap (p.Rows * p.gW))) then 11 else (bif (!p.Readings.all (Fa 0 20000)) then 2 else 0))))
theorem Jc {α:Type} {b:Bool} {x y:α}:(bif b then some x else some y)=some (bif b then x else y):=by cases b <;> rfl
theorem BL {N:Nat} {p:GPanel} (h:p.Readings.length<9223372036854775807) (hN:2 ^ 64≤N):iY N p=some (eX p):=by
  unfold iY
  rw [JH (by omega),bS,Ci (by simp) (by simp;omega),Ci h (by omega)]
  unfold eX
  cases kV p.Name with
  | false=>rfl
  | true =>
    simp only [Bool.not_true,qo,List.all_cons,List.all_nil,Bool.and_true]
    cases (ax .lss p.Rows 1||ax .lss p.gW 1) with
    | true=>rfl
    | false =>
      simp only [Bool.not_false,oC,bS,Jc]
theorem Cj {N:Nat} {x lo hi:Int}:lD N x lo hi=some (Fa lo hi x):=rfl
theorem zq {N:Nat} {p:GPanel} (h:p.Readings.length<9223372036854775807) (hN:2 ^ 64≤N):jl N p=some (eX p):=by
  unfold jl
  have hloop:bD (gu N p) N 0=some (if p.Readings.all (Fa 0 20000) then .inl () else .inr 2):=by
    refine pV p.Readings.length _ (fun i=>∀ j (h:j<p.Readings.length),j<i→Fa 0 20000 p.Readings[j]=true) ?_ ?_ (fun j _ h=>absurd h (Nat.not_lt_zero _)) N (by omega)
    · intro i hi hp
      unfold gu
      rw [dh,show decide ((i:Int)<(p.Readings.length:Int))=true by rw [decide_eq_true_eq];omega,oC,pJ hi,bS,Cj,bS,uH (by omega)]
      cases hg:Fa 0 20000 p.Readings[i] with
      | true =>
        refine .inl ⟨rfl,fun j hj hji=>?_⟩
        rcases Nat.lt_succ_iff_lt_or_eq.1 hji with h | rfl
        · exact hp j hj h
        · exact hg
      | false =>
        refine .inr ?_
        rw [if_neg]
        · rfl
        · rw [List.all_eq_true];intro h
          rw [h _ (List.getElem_mem hi)] at hg;cases hg
    · intro hp
      unfold gu
      rw [dh,show decide (((p.Readings.length:Nat):Int)<(p.Readings.length:Int))=false by simp,qo,if_pos]
      rw [List.all_eq_true]
      intro x hx
      obtain ⟨j,hj,rfl⟩:=List.getElem_of_mem hx
      exact hp j hj hj
  rw [Hg (by omega),bS,hloop]
  unfold eX
  cases kV p.Name with
  | false=>rfl
  | true =>
    simp only [Bool.not_true,qo,Cj]
    cases (ax .lss p.Rows 1||ax .lss p.gW 1) with
    | true=>rfl
    | false =>
      simp only [Bool.not_false,oC,bS]
      cases p.Readings.all (Fa 0 20000) <;> simp only [Jc,if_true,Bool.false_eq_true,if_false,Sum.elim_inl,Sum.elim_inr,Bool.not_true,Bool.not_false,oC,qo]
theorem xu {p:GPanel} (h:eX p=0):100≤p.ku∧p.ku≤20000∧p.Readings.length≤400∧∀ x ∈ p.Readings,0≤x∧x≤20000:=by
  unfold eX at h
  cases h1:(!kV p.Name) with
  | true=>rw [h1] at h;cases h
  | false =>
    rw [h1,qo] at h
    cases h2:(((ax .lss p.Rows 1)||(ax .lss p.gW 1))||(!Fa 100 20000 p.ku)) with
    | true=>rw [h2] at h;cases h
    | false =>
      rw [h2,qo] at h
      cases h3:(((ax .gtr p.Rows 400)||(ax .gtr p.gW 400))||(ax .gtr (IntKind.i64.wrap (p.Rows * p.gW)) 400)) with
      | true=>rw [h3] at h;cases h
      | false =>
        rw [h3,qo] at h
        cases h4:(ax .neq (List.length p.Readings:Int) (IntKind.i64.wrap (p.Rows * p.gW))) with
        | true=>rw [h4] at h;cases h
        | false =>
          rw [h4,qo] at h
          cases h5:(!p.Readings.all (Fa 0 20000)) with
          | true=>rw [h5] at h;cases h
          | false =>
            simp only [Bool.or_eq_false_iff,Bool.not_eq_false',Fa,Bool.and_eq_true,decide_eq_true_eq,rZ,decide_eq_false_iff_not,jw,List.all_eq_true] at h2 h3 h4 h5
            refine ⟨h2.2.1,h2.2.2,by omega,fun x hx=>h5 x hx⟩
def jO (r:GRule):Int:=bif (((ax .lss r.dR 0)||(ax .gtr r.dR r.oG))||(ax .gtr r.oG 1000)) then 2 else 0
theorem Dq {N:Nat} {r:GRule}:jo N r=some (jO r):=by unfold jo jO;rw [Jc]
theorem zY {N:Nat} {r:GRule}:jE N r=some (jO r):=by unfold jE jO;rw [Jc]
theorem ruleErr_zero {r:GRule} (h:jO r=0):0≤r.dR∧r.dR≤r.oG∧r.oG≤1000:=by
  unfold jO at h
  cases hc:(((ax .lss r.dR 0)||(ax .gtr r.dR r.oG))||(ax .gtr r.oG 1000)) with
  | true=>rw [hc] at h;cases h
  | false =>
    simp only [Bool.or_eq_false_iff,dh,rZ,decide_eq_false_iff_not] at hc
    omega
end Go.KB
