/- Plain laws: grades of panels. No condition. -/
import Derived.Test.YtmkofmfndcoflaaPPan
import Derived.Test.YtmkofmfndcoflaaPZa
namespace Go.KB
set_option linter.unusedVariables false
theorem take_one {α:Type} {l:List α} {i:Nat} (hi:i<l.length):l.take (i+1)=l.take i ++ [l[i]]:=List.take_succ_eq_append_getElem hi
def jP (p:GPanel) (r:GRule) (t:Int):Int :=
  bif (ax .eql t 0) then 0 else (bif (ax .geq (IntKind.i64.wrap (1000 * (max (IntKind.i64.wrap (p.ku - t)) 0))) (IntKind.i64.wrap (r.oG * p.ku))) then 3 else (bif (ax .geq (IntKind.i64.wrap (1000 * (max (IntKind.i64.wrap (p.ku - t)) 0))) (IntKind.i64.wrap (r.dR * p.ku))) then 2 else 1))
theorem Jb {N:Nat} {p:GPanel} {r:GRule} {t:Int}:lI N p r t=some (jP p r t):=by
  unfold lI pz jP
  cases ax .eql t 0 with
  | true=>rfl
  | false=>simp only [qo,bS,Jc]
theorem Ee {N:Nat} {p:GPanel} {r:GRule} (h:p.Readings.length<9223372036854775807) (hN:2 ^ 64≤N):jq N p r=some (if eX p=0 then (if jO r=0 then (p.Readings.map (jP p r),0) else ([],jO r)) else ([],eX p)):=by
  unfold jq
  rw [BL h hN,bS,jw,Dq]
  by_cases he:eX p=0
  · rw [show (!decide (eX p = 0)) = false by simp [he], qo, if_pos he, bS, jw]
    by_cases hr:jO r=0
    · rw [show (!decide (jO r = 0)) = false by simp [hr], qo, if_pos hr]
      obtain ⟨b1,b2,hlen,hall⟩:=xu he
      have:=Bo (f:=iQ N p r) p.Readings.length (fun i=>(p.Readings.take i).map (jP p r)) (p.Readings.map (jP p r)) (by
        intro i hi
        unfold iQ
        simp only []
        rw [dh,show decide ((i:Int)<(p.Readings.length:Int))=true by rw [decide_eq_true_eq];omega,oC,pJ hi,bS,Jb,bS,vU (by simp;unfold lim;omega),bS,uH (by omega),take_one hi,List.map_append]
        rfl) (by
        unfold iQ
        simp) N (by omega)
      simp only [List.take_zero,List.map_nil] at this
      rw [this];rfl
    · rw [show (!decide (jO r=0))=true by simp [hr],oC,if_neg hr]
  · rw [show (!decide (eX p=0))=true by simp [he],oC,if_neg he]
theorem Ef {N:Nat} {p:GPanel} {r:GRule} (he:eX p=0) (hN:2 ^ 64≤N):mJ N p r=some (p.Readings.map (jP p r)):=by
  unfold mJ
  obtain ⟨b1,b2,hlen,hall⟩:=xu he
  have:=Bo (f:=jf N p r) p.Readings.length (fun i=>(p.Readings.take i).map (jP p r)) (p.Readings.map (jP p r)) (by
    intro i hi
    have happ:∀ x:Int,app ((p.Readings.take i).map (jP p r)) [x]=some ((p.Readings.take i).map (jP p r) ++ [x]):=fun x=>vU (by simp;unfold lim;omega)
    unfold jf
    simp only []
    rw [dh,show decide ((i:Int)<(p.Readings.length:Int))=true by rw [decide_eq_true_eq];omega,oC,pJ hi,bS,bS,uH (by omega),take_one hi,List.map_append]
    simp only [happ,bS,List.map_cons,List.map_nil,jP]
    cases ax .eql p.Readings[i] 0 <;> cases ax .geq (IntKind.i64.wrap (1000 * (max (IntKind.i64.wrap (p.ku - p.Readings[i])) 0))) (IntKind.i64.wrap (r.oG * p.ku)) <;> cases ax .geq (IntKind.i64.wrap (1000 * (max (IntKind.i64.wrap (p.ku - p.Readings[i])) 0))) (IntKind.i64.wrap (r.dR * p.ku)) <;> rfl) (by
    unfold jf
    simp) N (by omega)
  simp only [List.take_zero,List.map_nil] at this
  rw [this];rfl
end Go.KB
