/- Plain laws: panels and rules. No condition. -/
import Derived.Test.YtmkofmfndcoflaaPSurvey
import Derived.Test.YtmkofmfndcoflaaPZb
namespace Go.KB
set_option linter.unusedVariables false
def eG (p:GPanel):Int :=
  bif (!kR p.Name) then 4 else (bif (((ai .lss p.Rows 1)||(ai .lss p.dX 1))||(!CB 100 20000 p.ig)) then 2 else (bif (((ai .gtr p.Rows 400)||(ai .gtr p.dX 400))||(ai .gtr (IntKind.i64.wrap (p.Rows * p.dX)) 400)) then 8 else (bif (ai .neq (List.length p.Readings:Int) (IntKind.i64.wrap (p.Rows * p.dX))) then 11 else (bif (!p.Readings.all (CB 0 20000)) then 2 else 0))))
theorem Jf {α:Type} {b:Bool} {x y:α}:(bif b then some x else some y)=some (bif b then x else y):=by cases b <;> rfl
theorem AZ {N:Nat} {p:GPanel} (h:p.Readings.length<9223372036854775807) (hN:2 ^ 64≤N):iT N p=some (eG p):=by
  unfold iT
  rw [JY (by omega),bS,BB (by simp) (by simp;omega),BB h (by omega)]
  unfold eG
  cases kR p.Name with
  | false=>rfl
  | true =>
    simp only [Bool.not_true,qj,List.all_cons,List.all_nil,Bool.and_true]
    cases (ai .lss p.Rows 1||ai .lss p.dX 1) with
    | true=>rfl
    | false =>
      simp only [Bool.not_false,nZ,bS,Jf]
theorem BD {N:Nat} {x lo hi:Int}:lq N x lo hi=some (CB lo hi x):=rfl
theorem yI {N:Nat} {p:GPanel} (h:p.Readings.length<9223372036854775807) (hN:2 ^ 64≤N):je N p=some (eG p):=by
  unfold je
  have hloop:bQ (gB N p) N 0=some (if p.Readings.all (CB 0 20000) then .inl () else .inr 2):=by
    refine rJ p.Readings.length _ (fun i=>∀ j (h:j<p.Readings.length),j<i→CB 0 20000 p.Readings[j]=true) ?_ ?_ (fun j _ h=>absurd h (Nat.not_lt_zero _)) N (by omega)
    · intro i hi hp
      unfold gB
      rw [dN,show decide ((i:Int)<(p.Readings.length:Int))=true by rw [decide_eq_true_eq];omega,nZ,rH hi,bS,BD,bS,wS (by omega)]
      cases hg:CB 0 20000 p.Readings[i] with
      | true =>
        refine .inl ⟨rfl,fun j hj hji=>?_⟩
        rcases Nat.lt_succ_iff_lt_or_eq.1 hji with h | rfl
        · exact hp j hj h
        · exact hg
      | false =>
        refine .inr ?_
        rw [if_neg]
        · rfl
        · rw [List.all_eq_true];intro h
          rw [h _ (List.getElem_mem hi)] at hg;cases hg
    · intro hp
      unfold gB
      rw [dN,show decide (((p.Readings.length:Nat):Int)<(p.Readings.length:Int))=false by simp,qj,if_pos]
      rw [List.all_eq_true]
      intro x hx
      obtain ⟨j,hj,rfl⟩:=List.getElem_of_mem hx
      exact hp j hj hj
  rw [Hq (by omega),bS,hloop]
  unfold eG
  cases kR p.Name with
  | false=>rfl
  | true =>
    simp only [Bool.not_true,qj,BD]
    cases (ai .lss p.Rows 1||ai .lss p.dX 1) with
    | true=>rfl
    | false =>
      simp only [Bool.not_false,nZ,bS]
      cases p.Readings.all (CB 0 20000) <;> simp only [Jf,if_true,Bool.false_eq_true,if_false,Sum.elim_inl,Sum.elim_inr,Bool.not_true,Bool.not_false,nZ,qj]
theorem rZ {p:GPanel} (h:eG p=0):100≤p.ig∧p.ig≤20000∧p.Readings.length≤400∧∀ x ∈ p.Readings,0≤x∧x≤20000:=by
  unfold eG at h
  cases h1:(!kR p.Name) with
  | true=>rw [h1] at h;cases h
  | false =>
    rw [h1,qj] at h
    cases h2:(((ai .lss p.Rows 1)||(ai .lss p.dX 1))||(!CB 100 20000 p.ig)) with
    | true=>rw [h2] at h;cases h
    | false =>
      rw [h2,qj] at h
      cases h3:(((ai .gtr p.Rows 400)||(ai .gtr p.dX 400))||(ai .gtr (IntKind.i64.wrap (p.Rows * p.dX)) 400)) with
      | true=>rw [h3] at h;cases h
      | false =>
        rw [h3,qj] at h
        cases h4:(ai .neq (List.length p.Readings:Int) (IntKind.i64.wrap (p.Rows * p.dX))) with
        | true=>rw [h4] at h;cases h
        | false =>
          rw [h4,qj] at h
          cases h5:(!p.Readings.all (CB 0 20000)) with
          | true=>rw [h5] at h;cases h
          | false =>
            simp only [Bool.or_eq_false_iff,Bool.not_eq_false',CB,Bool.and_eq_true,decide_eq_true_eq,qF,decide_eq_false_iff_not,jB,List.all_eq_true] at h2 h3 h4 h5
            refine ⟨h2.2.1,h2.2.2,by omega,fun x hx=>h5 x hx⟩
def kG (r:GRule):Int:=bif (((ai .lss r.dn 0)||(ai .gtr r.dn r.lX))||(ai .gtr r.lX 1000)) then 2 else 0
theorem CP {N:Nat} {r:GRule}:jd N r=some (kG r):=by unfold jd kG;rw [Jf]
theorem zi {N:Nat} {r:GRule}:jv N r=some (kG r):=by unfold jv kG;rw [Jf]
theorem CJ {r:GRule} (h:kG r=0):0≤r.dn∧r.dn≤r.lX∧r.lX≤1000:=by
  unfold kG at h
  cases hc:(((ai .lss r.dn 0)||(ai .gtr r.dn r.lX))||(ai .gtr r.lX 1000)) with
  | true=>rw [hc] at h;cases h
  | false =>
    simp only [Bool.or_eq_false_iff,dN,qF,decide_eq_false_iff_not] at hc
    omega
end Go.KB
