/- The renewals of a panel: the groups. No condition. -/
import Derived.Test.YtmkofmfndcoflaaPRk
import Derived.Test.YtmkofmfndcoflaaPGd
namespace Go.KB
set_option linter.unusedVariables false
theorem Dk {p:GPanel} (h:eX p=0):∃ C R:Nat,0<C∧C≤400∧0<R∧R≤400∧p.gW=(C:Int)∧p.Rows=(R:Int)∧p.Readings.length=R * C∧R * C≤400:=by
  unfold eX at h
  cases h1:(!kV p.Name) with
  | true=>rw [h1] at h;cases h
  | false =>
    rw [h1,qo] at h
    cases h2:(((ax .lss p.Rows 1)||(ax .lss p.gW 1))||(!Fa 100 20000 p.ku)) with
    | true=>rw [h2] at h;cases h
    | false =>
      rw [h2,qo] at h
      cases h3:(((ax .gtr p.Rows 400)||(ax .gtr p.gW 400))||(ax .gtr (IntKind.i64.wrap (p.Rows * p.gW)) 400)) with
      | true=>rw [h3] at h;cases h
      | false =>
        rw [h3,qo] at h
        cases h4:(ax .neq (List.length p.Readings:Int) (IntKind.i64.wrap (p.Rows * p.gW))) with
        | true=>rw [h4] at h;cases h
        | false =>
          simp only [Bool.or_eq_false_iff,dh,rZ,decide_eq_false_iff_not,jw,Bool.not_eq_false',decide_eq_true_eq] at h2 h3 h4
          obtain ⟨⟨a1,a2⟩,_⟩:=h2
          obtain ⟨⟨b1,b2⟩,b3⟩:=h3
          obtain ⟨C,hC⟩:∃ C:Nat,p.gW=(C:Int):=⟨p.gW.toNat,by omega⟩
          obtain ⟨R,hR⟩:∃ R:Nat,p.Rows=(R:Int):=⟨p.Rows.toNat,by omega⟩
          have hm:R * C≤400 * 400:=Nat.mul_le_mul (by omega) (by omega)
          have he:p.Rows * p.gW=((R * C:Nat):Int):=by rw [hR,hC];push_cast;rfl
          rw [he,qF (by have:=Int.natCast_nonneg (R * C);omega) (by omega)] at b3 h4
          exact ⟨C,R,by omega,by omega,by omega,by omega,hC,hR,by omega,by omega⟩
theorem mkB {α:Type} {z:α} {n:Nat} (h:n<1000000):mk z (n:Int) (n:Int)=some (List.replicate n z):=by
  have hlim:(10000000:Int)≤lim:=by decide
  unfold mk
  rw [dT (by omega),dT (by omega),dT (by omega),Int.toNat_natCast];rfl
def uO (g:List Int) (C R i:Nat):List ak×List Bool:=(List.range i).foldl (JW g C R) ([],List.replicate (R * C) false)
theorem Fb (g:List Int) (C R i:Nat):uO g C R (i+1)=JW g C R (uO g C R i) i:=by
  unfold uO
  rw [List.range_succ,List.foldl_append];rfl
theorem Be {g:List Int} {C R:Nat} (hC:0<C) (hn:R * C≤400):∀ i,i≤R * C→GI g C R i (uO g C R i):=by
  intro i
  induction i with
  | zero =>
    intro _
    refine ⟨by show (List.replicate _ _).length=_;rw [List.length_replicate],Nat.le_refl _,fun r hr=>(List.not_mem_nil hr).elim,fun r hr=>(List.not_mem_nil hr).elim,fun d hd hs=>?_,fun d hd=>absurd hd (Nat.not_lt_zero _)⟩
    have hs:(List.replicate (R * C) false)[d]! = true:=hs
    rw [xK (by rw [List.length_replicate];exact hd),List.getElem_replicate] at hs
    cases hs
  | succ i ih =>
    intro h
    rw [Fb]
    exact (ih (by omega)).step hC (by omega) hn
theorem JD {C i:Nat} {seen:List Bool}:bx (nD C i seen)=⟨((i % C:Nat):Int),((i / C:Nat):Int),1,1⟩:=by
  unfold bx nD
  simp only [Int.sub_self]
  rfl
section
variable {N:Nat} {p:GPanel} {g:List Int} {C R:Nat} (hC:0<C) (Cc:C≤400) (hR4:R≤400) (hN:1000000≤N) (hpc:p.gW=(C:Int)) (hpr:p.Rows=(R:Int)) (hg:g.length=R * C) (hn:R * C≤400)
include hC Cc hR4 hpc hpr hg hn hN in
theorem G6:kM N p g=some (uO g C R (R * C)).1:=by
  have hlim:lim ≥ 10000000:=by decide
  unfold kM
  rw [mkB (by omega),bS]
  have key:=rD (N:=N) (f:=gJ N p g) (List.range g.length) (([],List.replicate g.length false):List ak×List Bool) (JW g C R) (fun t i=>(t.1,t.2,i)) (fun t=>t.1) (fun i hi t ht=>?_) (fun t=>?_) (by rw [List.length_range];omega)
  · have key:bD (gJ N p g) N ([],List.replicate g.length false,0)=_:=key
    rw [key,bS,hg];rfl
  · rw [List.length_range] at hi
    have ht:t=uO g C R i:=by
      rw [ht,List.take_range,Nat.min_eq_left (by omega),hg];rfl
    have hG:=Be (g:=g) (R:=R) hC hn i (by omega)
    rw [← ht] at hG
    rw [List.getElem_range]
    have hl:=hG.len
    have hln:=hG.n
    unfold gJ JW
    simp only []
    rw [dh,dT (by omega),oC,xJ hi,bS,jw,uH (by omega)]
    by_cases h3:g[i]! = 3
    · rw [decide_eq_true h3]
      simp only [Bool.not_true,Bool.not_false,oC,Bool.true_and,Bool.false_or]
      rw [xJ (by omega),bS]
      cases hs:t.2[i]! with
      | true=>rfl
      | false =>
        obtain ⟨j1,j2⟩:=Fe hC (by omega) hl h3
        simp only [qo,Bool.not_false,oC]
        rw [bS,hpc,Ag hC,bS,Ah hC (by omega),bS]
        have hb:=IZ hC Cc hR4 hN hpc hpr hg hn 3000 (nD C i t.2) j1.inv (by omega) (by omega) N (by omega)
        rw [JD] at hb
        have hb:bD (dJ N p g) N (List.set t.2 (Int.toNat (i:Int)) true,⟨((i % C:Nat):Int),((i / C:Nat):Int),1,1⟩,[(i:Int)])=_:=hb
        rw [hb,bS,vU (by rw [List.length_singleton];omega),bS]
    · rw [decide_eq_false h3];rfl
  · unfold gJ
    simp only [List.length_range]
    rw [dh,dF (by omega),qo]
include hC Cc hpc hpr hg hn hN in
theorem G7 {i:Nat} {seen:List Bool} (hi:i<R * C) (hl:seen.length=R * C) (h3:g[i]! = 3):mg N p g seen (i:Int)=some ((xq g C R 3000 (nD C i seen)).seen,bx (xq g C R 3000 (nD C i seen))):=by
  obtain ⟨j1,j2⟩:=Fe hC hi hl h3
  unfold mg
  rw [xJ (by omega),bS,hpc,Ag hC,bS,bS,Ah hC (by omega),bS,bS]
  have hb:=JE hC Cc hN hpc hpr hg hn 3000 (nD C i seen) j1.inv (by omega) (by omega) N (by omega)
  have hb:bD (dV N p g) N (List.set seen (Int.toNat (i:Int)) true,[(i:Int)],((i % C:Nat):Int),((i % C:Nat):Int),((i / C:Nat):Int),((i / C:Nat):Int))=_:=hb
  obtain ⟨b1,_⟩:=Gn hC 3000 _ j1.inv (by omega)
  have h1:=b1.lr
  have h2:=b1.tw
  have h4:R * C≤400:=hn
  have hR:(xq g C R 3000 (nD C i seen)).w<400:=by
    have:R * 1≤R * C:=Nat.mul_le_mul_left _ hC
    omega
  rw [hb,bS]
  simp only []
  rw [qF (n:=((xq g C R 3000 (nD C i seen)).r:Int) - (xq g C R 3000 (nD C i seen)).l) (by omega) (by omega),qF (n:=((xq g C R 3000 (nD C i seen)).w:Int) - (xq g C R 3000 (nD C i seen)).t) (by omega) (by omega),qF (by omega) (by omega),qF (by omega) (by omega)];rfl
include hC Cc hpc hpr hg hn hN in
theorem Ff:bD (eY N p g) N (List.replicate (R * C) false,[],0)=some (kZ (uO g C R (R * C)).1):=by
  have hlim:lim ≥ 10000000:=by decide
  have key:=rD (N:=N) (f:=eY N p g) (List.range g.length) (([],List.replicate g.length false):List ak×List Bool) (JW g C R) (fun t i=>(t.2,kZ t.1,i)) (fun t=>kZ t.1) (fun i hi t ht=>?_) (fun t=>?_) (by rw [List.length_range];omega)
  · have key:bD (eY N p g) N (List.replicate g.length false,[],0)=_:=key
    rw [hg] at key
    rw [key];rfl
  · rw [List.length_range] at hi
    have ht:t=uO g C R i:=by
      rw [ht,List.take_range,Nat.min_eq_left (by omega),hg];rfl
    have hG:=Be (g:=g) (R:=R) hC hn i (by omega)
    rw [← ht] at hG
    rw [List.getElem_range]
    have hl:=hG.len
    have hln:=hG.n
    have hrl:=(lN t.1).length_eq
    unfold eY JW
    simp only []
    rw [dh,dT (by omega),oC,xJ hi,bS,rY,uH (by omega)]
    by_cases h3:g[i]! = 3
    · rw [decide_eq_true h3]
      simp only [oC,Bool.true_and]
      rw [xJ (by omega),bS]
      cases hs:t.2[i]! with
      | true=>rfl
      | false =>
        simp only [Bool.not_false,oC]
        rw [G7 hC Cc hN hpc hpr hg hn (by omega) hl h3,bS,put_eq (by omega) hN,bS,zu]
    · rw [decide_eq_false h3];rfl
  · unfold eY
    simp only [List.length_range]
    rw [dh,dF (by omega),qo]
end
theorem Fg {g:List Int} {C R:Nat} (hC:0<C) (hn:R * C≤400):Good g C R (uO g C R (R * C)).1∧(uO g C R (R * C)).1.length≤400:=by
  have h:=Be (g:=g) (R:=R) hC hn (R * C) (Nat.le_refl _)
  exact ⟨⟨h.inr,h.ti,fun d hd hg=>h.cov d hd (h.all d hd hg)⟩,by have:=h.n;omega⟩
structure La (g:List Int) (C R:Nat) (res:List ak):Prop where
  good:Good g C R res
  apart:∀ i j,i<j→j<res.length→mO res[i]! res[j]! = false
  len:res.length≤400
theorem Ed {N:Nat} {p:GPanel} {r:GRule} (he:eX p=0) (hr:jO r=0) (hN:2 ^ 64≤N) {C R:Nat} (hC:0<C) (Cc:C≤400) (hR4:R≤400) (hpc:p.gW=(C:Int)) (hpr:p.Rows=(R:Int)) (hlen:p.Readings.length=R * C) (hn:R * C≤400) :
    ∃ res,iw N p r=some (res,0)∧jR N p r=some res∧La (p.Readings.map (jP p r)) C R res:=by
  obtain ⟨g1,g2⟩:=Fg (g:=p.Readings.map (jP p r)) (R:=R) hC hn
  have hgl:(p.Readings.map (jP p r)).length=R * C:=by rw [List.length_map,hlen]
  have hpl:=(lN (uO (p.Readings.map (jP p r)) C R (R * C)).1).length_eq
  obtain ⟨res,r1,r2,r3,r4,r5⟩:=Fh (N:=N) (C:=C) (R:=R) (by omega) (by omega) (by omega) 400 (kZ (uO (p.Readings.map (jP p r)) C R (R * C)).1) (by omega) (by omega) (zI _) (g1.perm (lN _)) N (by omega)
  refine ⟨res,?_,?_,⟨r3,r4,by omega⟩⟩
  · unfold iw
    rw [Ee (by omega) hN,if_pos he,if_pos hr,bS]
    simp only []
    rw [jw,show (!decide ((0:Int)=0))=false from rfl,qo,G6 hC Cc hR4 (by omega) hpc hpr hgl hn,bS,uI (by omega) (by omega),bS,r1,bS]
  · unfold jR
    rw [Ef he hN,bS,mkB (by omega),bS,hgl,Ff hC Cc (by omega) hpc hpr hgl hn,bS,r2,bS]
end Go.KB
