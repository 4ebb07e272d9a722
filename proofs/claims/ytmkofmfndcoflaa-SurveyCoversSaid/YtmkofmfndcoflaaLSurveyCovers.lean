/- The plain law of SurveyCovers: it returns true for every panel, rule and place. No condition. -/
import Derived.Test.YtmkofmfndcoflaaPZr
namespace Go.KB
set_option linter.unusedVariables false
theorem EZ {p:GPanel} {r:GRule} (hb:100≤p.ig∧p.ig≤20000) (hr:0≤r.dn∧r.dn≤r.lX∧r.lX≤1000) {t:Int} (h2:2≤t) (h3:t≤20000):jk p r t≤jk p r (t - 1):=by
  have e1:r.lX * p.ig≤1000 * 20000:=Int.mul_le_mul hr.2.2 hb.2 (by omega) (by omega)
  have e2:0≤r.lX * p.ig:=Int.mul_nonneg (by omega) (by omega)
  have e3:r.dn * p.ig≤1000 * 20000:=Int.mul_le_mul (by omega) hb.2 (by omega) (by omega)
  have e4:0≤r.dn * p.ig:=Int.mul_nonneg (by omega) (by omega)
  unfold jk
  generalize r.lX * p.ig=m1 at e1 e2
  generalize r.dn * p.ig=m2 at e3 e4
  rw [pq,pq,dF (by omega),dF (by omega),qj,qj]
  rw [pO (n:=p.ig - t) (by omega) (by omega),pO (n:=p.ig - (t - 1)) (by omega) (by omega),pO (n:=1000 * max (p.ig - t) 0) (by omega) (by omega),pO (n:=1000 * max (p.ig - (t - 1)) 0) (by omega) (by omega),pO (n:=m1) (by omega) (by omega),pO (n:=m2) (by omega) (by omega),pz,pz,pz,pz]
  by_cases k1:1000 * max (p.ig - t) 0 ≥ m1
  · rw [dT k1, dT (p := m1 ≤ 1000 * max (p.ig - (t - 1)) 0) (by omega), nZ, nZ]
    exact Int.le_refl _
  · rw [dF k1,qj]
    by_cases k2:1000 * max (p.ig - t) 0 ≥ m2
    · rw [dT k2, dT (p := m2 ≤ 1000 * max (p.ig - (t - 1)) 0) (by omega), nZ]
      cases decide (m1≤1000 * max (p.ig - (t - 1)) 0) <;> decide
    · rw [dF k2,qj]
      cases decide (m1≤1000 * max (p.ig - (t - 1)) 0) <;> cases decide (m2≤1000 * max (p.ig - (t - 1)) 0) <;> decide
theorem AX {p:GPanel} (he:eG p=0) {i:Nat} {x:Int} (hx:0≤x∧x≤20000):eG { p with Readings:=p.Readings.set i x }=0:=by
  obtain ⟨_,_,_,hall⟩:=rZ he
  have h1:(p.Readings.set i x).all (CB 0 20000)=true:=by
    rw [List.all_eq_true]
    intro y hy
    unfold CB
    rcases List.mem_or_eq_of_mem_set hy with q | q
    · have:=hall y q
      rw [dT this.1,dT this.2];rfl
    · subst q;rw [dT hx.1,dT hx.2];rfl
  have h2:p.Readings.all (CB 0 20000)=true:=by
    rw [List.all_eq_true]
    intro y hy
    unfold CB
    have:=hall y hy
    rw [dT this.1,dT this.2];rfl
  rw [← he]
  unfold eG
  simp only []
  rw [List.length_set,h1,h2]
theorem law_SurveyCovers (x0:GPanel) (x1:GRule) (x2:Int) (h0:x0.ok) (h1:x1.ok) (h2:(gI .u8) x2):jq (2 ^ 70) x0 x1 x2=some true:=by
  have hN:2 ^ 64≤(2 ^ 70:Nat):=by decide
  have hlim:lim ≥ 10000000:=by decide
  unfold jq
  rw [LY,bS,Bool.not_true,qj]
  unfold qx
  rw [bS]
  cases hs:((ai .leq (List.length x0.Readings:Int) 410)&&(ai .leq (List.length x0.Name:Int) 50)) with
  | false=>rfl
  | true =>
    rw [Bool.not_true,Bool.false_or]
    simp only [Gf,Bool.and_eq_true,decide_eq_true_eq] at hs
    have hl:x0.Readings.length<9223372036854775807:=by omega
    cases ai .gtr (List.length x0.Readings:Int) 100 with
    | true=>rfl
    | false =>
      rw [Bool.not_false,nZ,AY hl hN,bS,Bool.false_or]
      by_cases hz:(if eG x0=0 then kG x1 else eG x0)=0
      · have he:eG x0=0:=by
          by_cases he:eG x0=0
          · exact he
          · rw [if_neg he] at hz;exact hz
        have hr:kG x1=0:=by rw [if_pos he] at hz;exact hz
        obtain ⟨C,R,c1,c2,c3,c4,c5,c6,c7,c8⟩:=CG he
        have r1:=D6 he hr hN c1 c2 c4 c5 c6 c7 c8
        have r3:=E5 (p:=x0) (r:=x1) c1 c8
        generalize Gg x0 x1 C R=res at r1 r3
        have hrl:=r3.len
        have hgl:(x0.Readings.map (jk x0 x1)).length=R * C:=by rw [List.length_map,c7]
        obtain ⟨b1,b2,b3,hall⟩:=rZ he
        have hrz:=CJ hr
        have hcp:0<R * C:=Nat.mul_pos c3 c1
        obtain ⟨k,hk⟩:∃ k:Nat,x2=(k:Int):=⟨x2.toNat,by have:(0:Int)≤x2:=h2.1;omega⟩
        have hk2:k≤255:=by
          have:x2≤255:=h2.2
          rw [hk] at this
          omega
        rw [hz,jB,show (!decide ((0:Int)=0))=false from rfl,qj,Ai hl hN,if_pos he,if_pos hr,bS,r1,bS]
        simp only []
        rw [jB,show (!decide ((0:Int)=0))=false from rfl,jB,hgl,c7,dT rfl,Bool.not_true,Bool.or_false,Bool.or_false,qj,mkB (by omega),bS,G6 c1 c2 c4 hgl c8 r3 (by decide) c5,bS,Sum.elim_inl,G7 c2 c4 r3 (by decide) c5 c6,bS,Sum.elim_inl]
        rw [hk,pO (by omega) (by omega),zx hcp,bS]
        have hi:k % (R * C)<x0.Readings.length:=by rw [c7];exact Nat.mod_lt _ hcp
        generalize k % (R * C)=i at hi
        have hm:x0.Readings[i]! ∈ x0.Readings:=by rw [oO hi];exact List.getElem_mem _
        have hx:=hall _ hm
        rw [wB hi,bS,dN]
        by_cases ht:x0.Readings[i]! < 2
        · rw [dT ht,nZ]
        · rw [dF ht,qj]
          unfold l9
          rw [CO (by rw [List.length_nil];omega),bS,bS,List.nil_append,wB hi,bS,bS,Int.toNat_natCast,pO (by omega) (by omega)]
          have hq:=AX he (i:=i) (x:=x0.Readings[i]! - 1) ⟨by omega,by omega⟩
          rw [Ai (by show (x0.Readings.set i _).length<_;rw [List.length_set];exact hl) hN,if_pos hq,if_pos hr,bS]
          simp only []
          rw [pq,pq,List.length_map,List.length_set,c7,dT rfl,dT rfl,Bool.and_self,nZ,nZ,wB (by rw [List.length_map,List.length_set];exact hi),bS,wB (by rw [List.length_map];exact hi),bS,Bool.true_and,pz]
          refine congrArg some (dT ?_)
          rw [oO (l:=List.map _ (x0.Readings.set i _)) (by rw [List.length_map,List.length_set];exact hi),oO (l:=List.map _ x0.Readings) (by rw [List.length_map];exact hi),List.getElem_map,List.getElem_map,List.getElem_set,if_pos rfl,← oO hi]
          exact EZ ⟨b1,b2⟩ hrz (by omega) hx.2
      · rw [jB,dF hz];rfl
end Go.KB
