/- Plain laws of the exact package: sums, differences and products of natural numbers. Plain laws of the exact package: products of natural numbers. Plain laws of the exact package: one digit of a quotient. Plain laws of the exact package: quotient and remainder of natural numbers. Plain laws of the exact package: quotient, remainder, greatest common divisor of natural numbers. Plain laws: integers and fractions as values; their sizes. Plain laws of the exact package: integers and fractions. No condition. -/
import Derived.Test.YtehmpjjbmldcnaaPZa
namespace Go.KB
set_option linter.unusedVariables false
theorem Ld {n:Int} (h0:0≤n) (h1:n≤137438953472):mk (0:Int) n n=some (List.replicate n.toNat 0):=by
 unfold mk
 rw [show (decide ((0:Int)≤n)&&decide (n≤n)&&decide (n≤(lim:Int)))=true by simp only [Bool.and_eq_true,decide_eq_true_eq];unfold lim;omega]
 rfl
end Go.KB
namespace Go.KB
set_option linter.unusedVariables false
theorem VP {l:List Int} {j:Nat} (h:val l<65536 ^ j):fP l j=0:=by
 have h1:=GZ l j
 have h2:=yL l j
 rcases Nat.eq_zero_or_pos (fP l j) with h3 | h3
 ·exact h3
 ·exfalso
  have:65536 ^ j * 1≤65536 ^ j * val (l.drop j):=Nat.mul_le_mul_left _ (by omega)
  omega
theorem CS {x y:Nat} (hx:x<65536) (hy:y<65536):x * y≤4294836225:=by
 have:=Nat.mul_le_mul (show x≤65535 by omega) (show y≤65535 by omega)
 omega
end Go.KB
namespace Go.KB
set_option linter.unusedVariables false
theorem ZH {top u2 ul vt v2 vl P q:Nat} (ZI:ul<P) (hq:q * ((vt * 65536+v2) * P+vl)≤(top * 65536+u2) * P+ul) (hu2:u2<65536):q * vt≤top:=by
 rcases Nat.lt_or_ge top (q * vt) with h | h
 ·exfalso
  have h1:(top+1) * (65536 * P)≤(q * vt) * (65536 * P):=Nat.mul_le_mul_right _ h
  have h2:u2 * P+P≤65536 * P:=by rw [← Nat.succ_mul];exact Nat.mul_le_mul_right _ hu2
  have e1:q * ((vt * 65536+v2) * P+vl)=q * vt * (65536 * P)+q * (v2 * P+vl):=by grind
  have e2:(top * 65536+u2) * P+ul=top * (65536 * P)+(u2 * P+ul):=by grind
  have e3:(top+1) * (65536 * P)=top * (65536 * P)+65536 * P:=by grind
  omega
 ·exact h
theorem VQ {top u2 ul vt v2 vl P q rest:Nat} (ZI:ul<P) (hr:q * vt+rest=top) (ht:rest * 65536+u2<q * v2):(top * 65536+u2) * P+ul<q * ((vt * 65536+v2) * P+vl):=by
 have h1:(top * 65536+u2+1) * P≤q * (vt * 65536+v2) * P:=by
  refine Nat.mul_le_mul_right _ ?_
  have:q * (vt * 65536+v2)=q * vt * 65536+q * v2:=by grind
  rw [this,← hr];omega
 have e1:q * ((vt * 65536+v2) * P+vl)=q * (vt * 65536+v2) * P+q * vl:=by grind
 have e2:(top * 65536+u2+1) * P=(top * 65536+u2) * P+P:=by grind
 omega
theorem VR {top u2 ul vt v2 vl P q rest:Nat} (hvl:vl<P) (hr:q * vt+rest=top) (ht:q * v2≤rest * 65536+u2) (hq:q<65536) (hvt:1≤vt):q * ((vt * 65536+v2) * P+vl)≤(top * 65536+u2) * P+ul+((vt * 65536+v2) * P+vl):=by
 have h1:q * (vt * 65536+v2) * P≤(top * 65536+u2) * P:=by
  refine Nat.mul_le_mul_right _ ?_
  have:q * (vt * 65536+v2)=q * vt * 65536+q * v2:=by grind
  rw [this,← hr];omega
 have h2:q * vl≤65536 * P:=Nat.mul_le_mul (by omega) (by omega)
 have h3:65536 * P≤(vt * 65536+v2) * P:=Nat.mul_le_mul_right _ (by omega)
 have e1:q * ((vt * 65536+v2) * P+vl)=q * (vt * 65536+v2) * P+q * vl:=by grind
 omega
theorem VN {k:Nat} (h:k<18446744073709551616):iY .and .u64 (k:Int) 65535=((k % 65536:Nat):Int):=by
 unfold iY
 simp only []
 have e:(BitVec.ofInt IntKind.u64.bits (k:Int) &&& BitVec.ofInt IntKind.u64.bits (65535:Int)).toNat=k % 65536:=by
  rw [BitVec.ofInt_natCast,BitVec.toNat_and,BitVec.toNat_ofNat]
  show k % 2 ^ 64 &&& 65535=_
  rw [Nat.mod_eq_of_lt (by omega)]
  exact Nat.and_two_pow_sub_one_eq_mod k 16
 rw [e,Xv (by omega)]
theorem X9 {a b:Nat} (hb:b≠0) (ha:a<18446744073709551616):Fj .u64 (a:Int) (b:Int)=some ((a / b:Nat):Int):=by
 unfold Fj
 have:=Nat.div_le_self a b
 rw [if_neg (by omega),← Int.ofNat_tdiv,Xv (by omega)]
theorem TP {N n top u2 vt v2:Nat} {u v:List Int} {P ul vl:Nat} (hu:sD u) (hv:sD v) (hn:2≤n) (hvl:v.length=n) (ZI:u.length=n+1) (hn':n≤1000000) (e2:fP u (n - 2)=u2) (f2:fP v (n - 2)=v2) (ft:fP v (n - 1)=vt)
    (hvt:32768≤vt) (hP:ul<P) (hQ:vl<P) {Q:Nat} (hQ1:Q<65536) (hQ2:Q * ((vt * 65536+v2) * P+vl)≤(top * 65536+u2) * P+ul) (htop:top<vt * 65536+65536) (hN:2 ^ 64≤N) :
    ∃ o,aX (pU N u v) N (((top / vt:Nat):Int),((top % vt:Nat):Int))=some o∧∃ q:Nat,o=q∧q<65536∧Q≤q∧q * ((vt * 65536+v2) * P+vl)≤(top * 65536+u2) * P+ul+((vt * 65536+v2) * P+vl):=by
  have hu2:=lW hu (n - 2)
  have hv2:=lW hv (n - 2)
  have hvt2:=lW hv (n - 1)
  rw [e2] at hu2;rw [f2] at hv2;rw [ft] at hvt2
  have hq0:top / vt<131073:=by rw [Nat.div_lt_iff_lt_mul (by omega)];omega
  refine jb (fun s=>∃ q r:Nat,s=((q:Int),(r:Int))∧q * vt+r=top∧Q≤q∧q<131073) (fun s=>65536 - s.2.toNat) _ ?_ N _ ⟨top / vt,top % vt,rfl,by rw [Nat.mul_comm];exact Nat.div_add_mod top vt,?_,hq0⟩ (by simp only [];omega)
  · rintro s ⟨q,r,rfl,hr,hQq,hqb⟩
    unfold pU
    have hn2:IntKind.i64.wrap ((List.length v:Int) - 2)=((n - 2:Nat):Int):=by rw [hvl,jd (by omega) (by omega)];omega
    have hn1:IntKind.i64.wrap ((List.length v:Int) - 1)=((n - 1:Nat):Int):=by rw [hvl,jd (by omega) (by omega)];omega
    have i1:idx v ((n - 2:Nat):Int)=some ((v2:Nat):Int):=by rw [ny hv (by omega),f2]
    have i2:idx u ((n - 2:Nat):Int)=some ((u2:Nat):Int):=by rw [ny hu (by omega),e2]
    have i3:idx v ((n - 1:Nat):Int)=some ((vt:Nat):Int):=by rw [ny hv (by omega),ft]
    have hqr:q<65536∨r<65536:=by
      rcases Nat.lt_or_ge q 65536 with h | h
      · exact .inl h
      · right
        have:65536 * vt≤q * vt:=Nat.mul_le_mul_right _ h
        omega
    by_cases hr1:r<65536
    · by_cases hq1 : 65535 < q
      · refine .inl ⟨(((q - 1 : Nat) : Int), ((r + vt : Nat) : Int)), ?_, ⟨q - 1, r + vt, rfl, ?_, by omega, by omega⟩, by simp only []; omega⟩
        · simp (disch:=omega) only [aW,fE,dT,Bool.not_true,Bool.and_false,Bool.true_or,iP,iT,bS,hn1,i3,GV,Bool.and_true]
          rw [show (q:Int) - 1=((q - 1:Nat):Int) by omega];rfl
        · have : q * vt = (q - 1) * vt + vt := by rw [← Nat.succ_mul]; congr 1; omega
          omega
      · have XC := CS (show q < 65536 by omega) hv2
        have hw:IntKind.u64.wrap ((q:Int) * IntKind.u64.wrap ((v2:Nat):Int))=((q * v2:Nat):Int):=by rw [GV (n:=((v2:Nat):Int)) (by omega) (by omega),← Int.natCast_mul,GV (by omega) (by omega)]
        have hsh:yS .u64 (r:Int) 16=some ((65536 * r:Nat):Int):=KX (by omega)
        have hor:iY .or .u64 ((65536 * r:Nat):Int) (IntKind.u64.wrap ((u2:Nat):Int))=((65536 * r+u2:Nat):Int):=by rw [GV (n:=((u2:Nat):Int)) (by omega) (by omega),ZC hu2 (by omega)]
        simp (disch:=omega) only [aW,fE,dT (p:=(r:Int)<65536),dF (p:=65535<(q:Int)),Bool.not_false,Bool.and_true,iP,hn2,i1,i2,bS,hsh,hw,hor,Bool.false_or,Bool.true_and]
        by_cases ht:65536 * r+u2<q * v2
        · have hbig := VQ (vl := vl) (u2 := u2) (v2 := v2) hP hr (by omega)
          have hQlt:Q<q:=by
            rcases Nat.lt_or_ge Q q with h | h
            · exact h
            · have:=Nat.mul_le_mul_right ((vt * 65536+v2) * P+vl) h
              omega
          refine .inl ⟨(((q - 1:Nat):Int),((r+vt:Nat):Int)),?_,⟨q - 1,r+vt,rfl,?_,by omega,by omega⟩,by simp only [];omega⟩
          · simp (disch:=omega) only [dT,iP,bS,hn1,i3,GV]
            rw [show (q:Int) - 1=((q - 1:Nat):Int) by omega];rfl
          · have : q * vt = (q - 1) * vt + vt := by rw [← Nat.succ_mul]; congr 1; omega
            omega
        · refine .inr ⟨(q : Int), ?_, q, rfl, by omega, hQq, VR hQ hr (show q * v2 ≤ r * 65536 + u2 by omega) (by omega) (by omega)⟩
          simp (disch:=omega) only [dF,iT]
    · have hq2 : q < 65536 := by omega
      have hqv2:=CS hq2 hv2
      refine .inr ⟨(q:Int),?_,q,rfl,hq2,hQq,VR hQ hr (show q * v2≤r * 65536+u2 by omega) hq2 (by omega)⟩
      simp (disch:=omega) only [aW,dF,Bool.false_and,iT,bS]
  · rw [Nat.le_div_iff_mul_le (by omega)]
    exact ZH hP hQ2 hu2

theorem TQ {N q:Nat} {u v:List Int} (hu:sD u) (hv:sD v) (ZI:u.length=v.length+1) (hn':v.length≤1000000) (hq:q<65536) (hN:2 ^ 64≤N) :
    ∃ o,aX (nK N v (q:Int)) N (u,0,0,0)=some o∧sD o.1∧o.1.length=u.length∧∃ b:Nat,b<2∧o.2 = -(b:Int)∧val o.1+q * val v=val u+65536 ^ (v.length+1) * b:=by
  obtain ⟨o, ho, hd, hlen, b, hb, hob, c, hc, hv', hc0⟩ := jb (f := nK N v (q : Int)) (fun s => ∃ i c b : Nat, i ≤ v.length + 1 ∧ c < 65536 ∧ b < 2 ∧ s.2 = ((c : Int), -(b : Int), (i : Int)) ∧ sD s.1 ∧ s.1.length = u.length ∧ s.1.drop i = u.drop i ∧ val (s.1.take i) + q * val (v.take i) = val (u.take i) + 65536 ^ i * c + 65536 ^ i * b ∧ (i = v.length + 1 → c = 0)) (fun s => v.length + 1 - s.2.2.2.toNat)
    (fun o=>sD o.1∧o.1.length=u.length∧∃ b:Nat,b<2∧o.2 = -(b:Int)∧∃ c:Nat,c<65536∧val o.1+q * val v=val u+65536 ^ (v.length+1) * c+65536 ^ (v.length+1) * b∧c=0) (by
    rintro ⟨x,cc,bb,ii⟩ ⟨i,c,b,hi,hc,hb,hs,hd,hlen,hdr,hval,hcz⟩
    simp only [Prod.mk.injEq] at hs hd hlen hdr hval;obtain ⟨rfl,rfl,rfl⟩:=hs
    unfold nK
    have hn1:IntKind.i64.wrap ((List.length v:Int)+1)=((v.length+1:Nat):Int):=by rw [jd (by omega) (by omega)];omega
    by_cases hlt:i<v.length+1
    · have hxi:fP x i=fP u i:=by
        have h1:=congrArg (fun l=>fP l 0) hdr
        simpa [fP] using h1
      have hui:=lW hu i
      have YS:=lW hv i
      have XC:=CS hq YS
      have Ya:v.length≤i→fP v i=0:=fun h=>zl h
      have hstep:(bif decide ((i:Int)<(List.length v:Int)) then (idx v (i:Int)).bind fun v17=>some (IntKind.u64.wrap ((c:Int)+IntKind.u64.wrap ((q:Int) * IntKind.u64.wrap v17))) else some (c:Int))=some ((c+q * fP v i:Nat):Int):=by
        by_cases h:i<v.length
        · have hw : IntKind.u64.wrap ((q : Int) * IntKind.u64.wrap ((fP v i : Nat) : Int)) = ((q * fP v i : Nat) : Int) := by rw [GV (n := ((fP v i : Nat) : Int)) (by omega) (by omega), ← Int.natCast_mul, GV (by omega) (by omega)]
          simp (disch:=omega) only [dT,iP,ny hv,bS,hw]
          rw [← Int.natCast_add,GV (by omega) (by omega)]
        · rw [Ya (by omega)]
          simp (disch:=omega) only [dF,iT,Nat.mul_zero,Nat.add_zero]
      generalize hX:c+q * fP v i=X at *
      have hXb:X<4294967296:=by omega
      have hD:-131072<((fP u i:Nat):Int) - ((X % 65536:Nat):Int) + -(b:Int)∧((fP u i:Nat):Int) - ((X % 65536:Nat):Int) + -(b:Int)<65536:=by omega
      refine .inl ⟨(x.set i ((((fP u i:Nat):Int) - ((X % 65536:Nat):Int) + -(b:Int)) % 65536),((X / 65536:Nat):Int),(((fP u i:Nat):Int) - ((X % 65536:Nat):Int) + -(b:Int)) / 65536,((i+1:Nat):Int)),?_,
        ⟨i+1,X / 65536,((-((((fP u i:Nat):Int) - ((X % 65536:Nat):Int) + -(b:Int)) / 65536)).toNat),by omega,by omega,by omega,?_,zn hd (by omega) (by omega),by simp [hlen],?_,?_,?_⟩,by simp;omega⟩
      · simp (disch:=omega) only [aW,hn1,dT (p:=(i:Int)<((v.length+1:Nat):Int)),iP]
        rw [hstep]
        simp (disch:=omega) only [bS,Ob (k:=.u64) (by decide),Ob (k:=.i64) (by decide),ny hd,hxi,jd,VN,KZ,Int.toNat_natCast]
        rw [Int.natCast_ediv]
        rfl
      · simp only [Prod.mk.injEq,true_and]
        exact ⟨by omega,trivial⟩
      · rw [zo (by omega)];have:=congrArg (List.drop 1) hdr;simpa [List.drop_drop] using this
      · rw [dQ, dQ, dQ, wQ (Nat.le_refl i), pK (by omega), Nat.pow_succ]
        have h2:X % 65536+65536 * (X / 65536)=X:=Nat.mod_add_div X 65536
        generalize hm:X % 65536=m at *
        generalize hy:X / 65536=y at *
        have h3:((((fP u i:Nat):Int) - (m:Int) + -(b:Int)) % 65536).toNat+m+b=fP u i+65536 * (-((((fP u i:Nat):Int) - (m:Int) + -(b:Int)) / 65536)).toNat:=by omega
        generalize ((((fP u i:Nat):Int) - (m:Int) + -(b:Int)) % 65536).toNat=d at *
        generalize (-((((fP u i:Nat):Int) - (m:Int) + -(b:Int)) / 65536)).toNat=b' at *
        generalize 65536 ^ i=P at *
        have h4:P * (d+m+b)=P * (fP u i+65536 * b'):=by rw [h3]
        have h5:P * (m+65536 * y)=P * (c+q * fP v i):=by rw [h2,hX]
        clear hstep hdr hd hu hv
        grind
      · intro h
        have:fP v i=0:=Ya (by omega)
        rw [this] at hX
        omega
    · obtain rfl : i = v.length + 1 := by omega
      refine .inr ⟨(x,-(b:Int)),?_,hd,hlen,b,hb,rfl,c,hc,?_,hcz rfl⟩
      · simp (disch:=omega) only [aW,hn1,dF,iT]
      · rw [List.take_of_length_le (l:=x) (by omega),List.take_of_length_le (l:=v) (by omega),List.take_of_length_le (l:=u) (by omega)] at hval;exact hval) N (u,0,0,0) ⟨0,0,0,by omega,by omega,by omega,rfl,hu,rfl,rfl,by simp [val],by omega⟩ (by simp only [];omega)
  subst hc0
  exact ⟨o,ho,hd,hlen,b,hb,hob,by simpa using hv'⟩
theorem QV {N:Nat} {u v:List Int} (hu:sD u) (hv:sD v) (ZI:u.length=v.length+1) (hn':v.length≤1000000) (hN:2 ^ 64≤N) :
    ∃ o,aX (nM N v) N (u,0,0)=some o∧sD o.1∧o.1.length=u.length∧fP o.1 v.length=fP u v.length∧∃ c:Nat,c<2∧o.2=c∧val (o.1.take v.length)+65536 ^ v.length * c=val (u.take v.length)+val v:=by
  obtain ⟨o, ho, hd, hlen, hdr, c, hc, hoc, hv'⟩ := jb (f := nM N v) (fun s => ∃ i c : Nat, i ≤ v.length ∧ c < 2 ∧ s.2 = ((c : Int), (i : Int)) ∧ sD s.1 ∧ s.1.length = u.length ∧ s.1.drop i = u.drop i ∧ val (s.1.take i) + 65536 ^ i * c = val (u.take i) + val (v.take i)) (fun s => v.length - s.2.2.toNat)
    (fun o=>sD o.1∧o.1.length=u.length∧o.1.drop v.length=u.drop v.length∧∃ c:Nat,c<2∧o.2=c∧val (o.1.take v.length)+65536 ^ v.length * c=val (u.take v.length)+val v) (by
    rintro ⟨x,cc,ii⟩ ⟨i,c,hi,hc,hs,hd,hlen,hdr,hval⟩
    simp only [Prod.mk.injEq] at hs hd hlen hdr hval;obtain ⟨rfl,rfl⟩:=hs
    unfold nM
    by_cases hlt:i<v.length
    · have hxi:fP x i=fP u i:=by
        have h1:=congrArg (fun l=>fP l 0) hdr
        simpa [fP] using h1
      have hui:=lW hu i
      have YS:=lW hv i
      refine .inl ⟨(x.set i (((c+(fP u i+fP v i)) % 65536:Nat):Int),(((c+(fP u i+fP v i)) / 65536:Nat):Int),((i+1:Nat):Int)),?_,⟨i+1,(c+(fP u i+fP v i)) / 65536,by omega,by omega,rfl,zn hd (by omega) (by omega),by simp [hlen],?_,?_⟩,by simp;omega⟩
      · simp (disch := omega) only [aW, dT, iP, ny hd, ny hv, hxi, bS, ZG, Ob (k := .u32) (by decide), KZ, lY, Int.toNat_natCast]
        have e:((c:Int)+(((fP u i:Nat):Int)+((fP v i:Nat):Int)))=((c+(fP u i+fP v i):Nat):Int):=by omega
        rw [e];rfl
      · rw [zo (by omega)];have:=congrArg (List.drop 1) hdr;simpa [List.drop_drop] using this
      · rw [dQ, dQ, dQ, wQ (Nat.le_refl i), pK (by omega), Nat.pow_succ, Int.toNat_natCast]
        have h2:=Nat.mod_add_div (c+(fP u i+fP v i)) 65536
        generalize (c+(fP u i+fP v i)) % 65536=m at *
        generalize (c+(fP u i+fP v i)) / 65536=y at *
        generalize 65536 ^ i=P at *
        have h4:P * (m+65536 * y)=P * (c+(fP u i+fP v i)):=by rw [h2]
        clear hdr hd hu hv
        grind
    · obtain rfl : i = v.length := by omega
      refine .inr ⟨(x,(c:Int)),?_,hd,hlen,hdr,c,hc,rfl,?_⟩
      · simp (disch:=omega) only [aW,dF,iT]
      · rw [List.take_length] at hval;exact hval) N (u,0,0) ⟨0,0,by omega,by omega,rfl,hu,rfl,rfl,by simp [val]⟩ (by simp only [];omega)
  refine ⟨o,ho,hd,hlen,?_,c,hc,hoc,hv'⟩
  have h1:=congrArg (fun l=>fP l 0) hdr
  simpa [fP] using h1
end Go.KB
namespace Go.KB
set_option linter.unusedVariables false
theorem digit_eq {N:Nat} {u v:List Int} (hu:sD u) (hv:sD v) (hn:2≤v.length) (ZI:u.length=v.length+1) (hn':v.length≤1000000) (ht:32768≤fP v (v.length - 1)) (hlt:val u<65536 * val v) (hN:2 ^ 64≤N) :
    ∃ x,uq N u v=some (x,((val u / val v:Nat):Int))∧sD x∧x.length=u.length∧val x=val u % val v:=by
  have hV0:0<val v:=by
    rcases Nat.eq_zero_or_pos (val v) with h | h
    · rw [h] at hlt;omega
    · exact h
  have hQ:val u / val v<65536:=by rw [Nat.div_lt_iff_lt_mul hV0];exact hlt
  have hQ2:val u / val v * val v≤val u:=Nat.div_mul_le_self _ _
  generalize hn0:v.length=n at *
  obtain ⟨n,rfl⟩:∃ m,n=m+2:=⟨n - 2,by omega⟩
  have hvt:=lW hv (n+1)
  have hv2:=lW hv n
  have hun:=lW hu (n+2)
  have hu1:=lW hu (n+1)
  have hu2:=lW hu n
  have hP:val (u.take n)<65536 ^ n:=by have:=tu (uj hu n);rwa [List.length_take,Nat.min_eq_left (by omega)] at this
  have hQl:val (v.take n)<65536 ^ n:=by have:=tu (uj hv n);rwa [List.length_take,Nat.min_eq_left (by omega)] at this
  have ev:val v=(fP v (n+1) * 65536+fP v n) * 65536 ^ n+val (v.take n):=by
    have h1:=dQ v (n+1)
    have h2:=dQ v n
    rw [List.take_of_length_le (by omega)] at h1
    rw [h1,h2,Nat.pow_succ];grind
  have eu:val u=((fP u (n+2) * 65536+fP u (n+1)) * 65536+fP u n) * 65536 ^ n+val (u.take n):=by
    have h0:=dQ u (n+2)
    have h1:=dQ u (n+1)
    have h2:=dQ u n
    rw [List.take_of_length_le (by omega)] at h0
    rw [h0,h1,h2,Nat.pow_succ,Nat.pow_succ];grind
  have hQ3:=hQ2
  have hlt3:=hlt
  generalize hQv:val u / val v=Q at *
  generalize hPP:65536 ^ n=P at *
  have htop:fP u (n+2) * 65536+fP u (n+1)<fP v (n+1) * 65536+65536:=by
    rw [eu,ev] at hlt3
    rcases Nat.lt_or_ge (fP u (n+2) * 65536+fP u (n+1)) (fP v (n+1) * 65536+65536) with h | h
    · exact h
    · exfalso
      have h1:=Nat.mul_le_mul_right (65536 * P) h
      have h2:fP v n * P+P≤65536 * P:=by rw [← Nat.succ_mul];exact Nat.mul_le_mul_right _ hv2
      have e1:65536 * ((fP v (n+1) * 65536+fP v n) * P+val (v.take n))=(fP v (n+1) * 65536) * (65536 * P)+65536 * (fP v n * P+val (v.take n)):=by grind
      have e2:((fP u (n+2) * 65536+fP u (n+1)) * 65536+fP u n) * P+val (u.take n)=(fP u (n+2) * 65536+fP u (n+1)) * (65536 * P)+(fP u n * P+val (u.take n)):=by grind
      have e3:(fP v (n+1) * 65536+65536) * (65536 * P)=(fP v (n+1) * 65536) * (65536 * P)+65536 * (65536 * P):=by grind
      omega
  rw [ev,eu] at hQ3
  obtain ⟨o1,ho1,q,rfl,hq,hQq,hqle⟩:=TP (N:=N) (n:=n+2) (top:=fP u (n+2) * 65536+fP u (n+1)) (u2:=fP u n) (vt:=fP v (n+1)) (v2:=fP v n) hu hv (by omega) hn0 (by omega) (by omega) rfl rfl rfl (by simpa using ht) hP hQl hQ hQ3 htop hN
  rw [← ev,← eu] at hqle
  obtain ⟨o2,ho2,hd2,hl2,b,hb,hob,hv2'⟩:=TQ (N:=N) (q:=q) hu hv (by omega) (by omega) hq hN
  rw [hn0] at hv2'
  have hlt2:val o2.1<65536 ^ (n+2+1):=by have:=tu hd2;rwa [hl2,ZI] at this
  -- the beginning
  have ht0:fP v (n+1)≠0:=by have:fP v (n+1)=fP v (n+2 - 1):=rfl;omega
  have hstart:uq N u v=(aX (pU N u v) N ((((fP u (n+2) * 65536+fP u (n+1)) / fP v (n+1):Nat):Int),(((fP u (n+2) * 65536+fP u (n+1)) % fP v (n+1):Nat):Int))).bind fun ED=>(aX (nK N v ED) N (u,0,0,0)).bind fun V9=>bif (aB .lss V9.2 0) then ((aX (nM N v) N (V9.1,0,0)).bind fun OD=>(idx OD.1 (List.length v:Int)).bind fun v36=>(idx OD.1 (List.length v:Int)).bind fun v37=>some ((List.set OD.1 (Int.toNat (List.length v:Int)) (IntKind.u16.wrap (v36+(IntKind.u16.wrap OD.2)))),(IntKind.u16.wrap (IntKind.u64.wrap (ED - 1))))) else (some (V9.1,(IntKind.u16.wrap ED))):=by
    unfold uq
    have hn1:IntKind.i64.wrap (((n+2:Nat):Int) - 1)=((n+1:Nat):Int):=by rw [jd (by omega) (by omega)];omega
    have hsh:yS .u64 ((fP u (n+2):Nat):Int) 16=some ((65536 * fP u (n+2):Nat):Int):=KX (by omega)
    have hor:iY .or .u64 ((65536 * fP u (n+2):Nat):Int) ((fP u (n+1):Nat):Int)=((65536 * fP u (n+2)+fP u (n+1):Nat):Int):=ZC hu1 (by omega)
    rw [hn0]
    simp (disch:=omega) only [ny hu,ny hv,bS,GV,hsh,hn1,hor,X9 ht0,TN ht0]
    rw [Nat.mul_comm 65536 (fP u (n+2))]
  rw [hstart,ho1,bS,ho2,bS,hob]
  rcases Nat.lt_or_ge b 1 with h0 | h1
  · obtain rfl : b = 0 := by omega
    have hqQ:q=Q:=by
      have h1:q≤Q:=by rw [← hQv,Nat.le_div_iff_mul_le hV0];omega
      omega
    subst hqQ
    refine ⟨o2.1,?_,hd2,hl2,?_⟩
    · rw [show aB .lss (-((0:Nat):Int)) 0=false from rfl,iT,KZ,show ((q:Nat):Int) % 65536=q by omega]
    · have h2:=Nat.mod_add_div (val u) (val v)
      rw [hQv,Nat.mul_comm] at h2
      omega
  · obtain rfl : b = 1 := by omega
    have hqQ:q=Q+1:=by
      have h1:¬ q≤Q:=fun h=>by
        have:=Nat.mul_le_mul_right (val v) h
        omega
      have h2:q - 1≤Q:=by
        rw [← hQv,Nat.le_div_iff_mul_le hV0,Nat.sub_mul];omega
      omega
    subst hqQ
    obtain ⟨o3,ho3,hd3,hl3,hg3,c,hc,hoc,hv3⟩:=QV (N:=N) hd2 hv (by omega) (by omega) hN
    rw [hn0] at hg3 hv3
    have hw:=lW hd2 (n+2)
    have hR:val u % val v<val v:=Nat.mod_lt _ hV0
    have hVP:val v<65536 ^ (n+2):=by have:=tu hv;rwa [hn0] at this
    have h2:=Nat.mod_add_div (val u) (val v)
    rw [hQv,Nat.mul_comm] at h2
    have hcut:=dQ o2.1 (n+2)
    rw [List.take_of_length_le (by omega)] at hcut
    have htk:val (o3.1.take (n+2))<65536 ^ (n+2):=by have:=tu (uj hd3 (n+2));rwa [List.length_take,Nat.min_eq_left (by omega)] at this
    rw [Nat.pow_succ] at hv2'
    generalize hR0:val u % val v=R at *
    generalize hT0:val (o3.1.take (n+2))=T at *
    generalize 65536 ^ (n+2)=M at *
    have hsum:T+M * (c+fP o2.1 (n+2))=M * 65536+R:=by
      have e1:M * (c+fP o2.1 (n+2))=M * c+M * fP o2.1 (n+2):=Nat.mul_add _ _ _
      have e2:(Q+1) * val v=Q * val v+val v:=by rw [Nat.add_mul,Nat.one_mul]
      omega
    have hcw:c+fP o2.1 (n+2)=65536:=by
      rcases Nat.lt_trichotomy (c+fP o2.1 (n+2)) 65536 with h | h | h
      · exfalso
        have h3:M * (c+fP o2.1 (n+2))≤M * 65535:=Nat.mul_le_mul_left _ (by omega)
        omega
      · exact h
      · exfalso
        have h3:M * 65537≤M * (c+fP o2.1 (n+2)):=Nat.mul_le_mul_left _ (by omega)
        omega
    rw [hcw] at hsum
    refine ⟨o3.1.set (n+2) 0,?_,zn hd3 (by omega) (by omega),by rw [List.length_set];omega,?_⟩
    · have hi3 : idx o3.1 ((n + 2 : Nat) : Int) = some ((fP o2.1 (n + 2) : Nat) : Int) := by rw [ny hd3 (by omega), hg3]
      rw [show aB .lss (-((1:Nat):Int)) 0=true from rfl,iP,ho3,bS,hn0,hi3,bS,bS,hoc,KZ,KZ,KZ,GV (by omega) (by omega),Int.toNat_natCast]
      rw [show (((fP o2.1 (n+2):Nat):Int)+(c:Int) % 65536) % 65536=0 by omega,show ((((Q+1:Nat):Int) - 1) % 65536)=(Q:Int) by omega]
    · have h1:=dQ (o3.1.set (n+2) 0) (n+2)
      rw [List.take_of_length_le (by rw [List.length_set];omega),wQ (Nat.le_refl _),pK (by omega),hT0] at h1
      simp at h1
      omega

theorem QW (k t a:Nat) (ha:a<2 ^ k):a ||| 2 ^ k * t=2 ^ k * t+a:=by
 rw [Nat.or_comm]
 have:=Nat.shiftLeft_add_eq_or_of_lt ha t
 rw [Nat.shiftLeft_eq,Nat.mul_comm t] at this
 exact this.symm
theorem or16 {k t a:Nat} (ha:a<2 ^ k) (h:2 ^ k * t+a<65536):iY .or .u16 (a:Int) ((2 ^ k * t:Nat):Int)=((2 ^ k * t+a:Nat):Int):=by
 unfold iY
 simp only []
 have e:(BitVec.ofInt IntKind.u16.bits (a:Int) ||| BitVec.ofInt IntKind.u16.bits ((2 ^ k * t:Nat):Int)).toNat=2 ^ k * t+a:=by
  rw [BitVec.ofInt_natCast,BitVec.ofInt_natCast,BitVec.toNat_or,BitVec.toNat_ofNat,BitVec.toNat_ofNat]
  show a % 2 ^ 16 ||| (2 ^ k * t) % 2 ^ 16=_
  rw [Nat.mod_eq_of_lt (by omega),Nat.mod_eq_of_lt (by omega),QW k t a ha]
 rw [e,KZ];omega
theorem or32' {a d:Nat} (hd:d<65536) (h:65536 * a+d<4294967296):iY .or .u32 ((d:Nat):Int) ((65536 * a:Nat):Int)=((65536 * a+d:Nat):Int):=by
 unfold iY
 simp only []
 have e:(BitVec.ofInt IntKind.u32.bits ((d:Nat):Int) ||| BitVec.ofInt IntKind.u32.bits ((65536 * a:Nat):Int)).toNat=65536 * a+d:=by
  rw [BitVec.ofInt_natCast,BitVec.ofInt_natCast,BitVec.toNat_or,BitVec.toNat_ofNat,BitVec.toNat_ofNat]
  show d % 2 ^ 32 ||| (65536 * a) % 2 ^ 32=_
  rw [Nat.mod_eq_of_lt (by omega),Nat.mod_eq_of_lt (by omega),Nat.or_comm,or_mul a d hd]
 rw [e,IntKind.wrap_u32];omega
theorem ZJ {x k:Nat} (hk:k≤16) (h:x * 2 ^ k<4294967296):yS .u32 (x:Int) (k:Int)=some ((x * 2 ^ k:Nat):Int):=by
 unfold yS
 rw [if_neg (by omega),show min (Int.toNat (k:Int)) IntKind.u32.bits=k by rw [Int.toNat_natCast];show min k 32=k;omega]
 rw [show (x:Int) * 2 ^ k=((x * 2 ^ k:Nat):Int) by simp,Xx h]
theorem ZK {x k:Nat} (hk:k≤16):vG .u32 (x:Int) (k:Int)=some ((x / 2 ^ k:Nat):Int):=by
 unfold vG
 rw [if_neg (by omega),show min (Int.toNat (k:Int)) IntKind.u32.bits=k by rw [Int.toNat_natCast];show min k 32=k;omega]
 rw [show ((2:Int) ^ k)=((2 ^ k:Nat):Int) by simp,Int.fdiv_eq_ediv_of_nonneg _ (Int.natCast_nonneg _)]
 rfl
theorem Ei {k:Nat} (hk:k≤16):(65536:Nat)=2 ^ k * 2 ^ (16 - k):=by rw [← Nat.pow_add,show k+(16 - k)=16 by omega]
theorem Le {N k:Nat} {a:List Int} (ha:sD a) (hk:k≤15) (hl:a.length≤1000000) (hN:2 ^ 64≤N):∃ x,mZ N a (k:Int)=some x∧sD x∧x.length=a.length+1∧val x=val a * 2 ^ k:=by
  unfold mZ
  have h15:2 ^ k≤32768:=Nat.pow_le_pow_right (by decide) hk
  have hk0:0<2 ^ k:=Nat.pow_pos (by decide)
  have hsp:=Ei (show k≤16 by omega)
  rw [jd (by omega) (by omega),Ld (by omega) (by omega),bS,show ((a.length:Int)+1).toNat=a.length+1 by omega]
  obtain ⟨o, ho, hp⟩ := jb (f := lM N a (k : Int)) (fun s => ∃ i : Nat, i ≤ a.length ∧ s.2 = (i : Int) ∧ sD s.1 ∧ s.1.length = a.length + 1 ∧ fP s.1 i < 2 ^ k ∧ val (s.1.take (i + 1)) = val (a.take i) * 2 ^ k) (fun s => a.length - s.2.toNat)
    (fun o=>sD o∧o.length=a.length+1∧val o=val a * 2 ^ k) (by
    rintro ⟨x,ii⟩ ⟨i,hi,hs,hd,hlen,hg,hv⟩
    simp only at hs hd hlen hg hv;subst hs
    unfold lM
    by_cases hlt:i<a.length
    · have hx:=lW ha i
      have hw:fP a i * 2 ^ k<65536 * 2 ^ k:=Nat.mul_lt_mul_of_pos_right hx hk0
      have hmod:(fP a i * 2 ^ k) % 65536=2 ^ k * (fP a i % 2 ^ (16 - k)):=by
        conv=>lhs;rw [hsp,Nat.mul_comm (fP a i)]
        exact Nat.mul_mod_mul_left _ _ _
      have hdiv:fP a i * 2 ^ k / 65536<2 ^ k:=by rw [Nat.div_lt_iff_lt_mul (by omega)];omega
      have hlt2:2 ^ k * (fP a i % 2 ^ (16 - k))+fP x i<65536:=by
        have h1:fP a i % 2 ^ (16 - k)+1≤2 ^ (16 - k):=Nat.mod_lt _ (Nat.pow_pos (by decide))
        have h2:=Nat.mul_le_mul_left (2 ^ k) h1
        rw [← hsp,Nat.mul_add] at h2
        omega
      have Yb:IntKind.u16.wrap ((fP a i * 2 ^ k:Nat):Int)=((2 ^ k * (fP a i % 2 ^ (16 - k)):Nat):Int):=by rw [KZ,← hmod,Int.natCast_emod];rfl
      have hd1:sD (x.set i ((2 ^ k * (fP a i % 2 ^ (16 - k))+fP x i:Nat):Int)):=zn hd (by omega) (by omega)
      refine .inl ⟨((x.set i ((2 ^ k * (fP a i % 2 ^ (16 - k))+fP x i:Nat):Int)).set (i+1) ((fP a i * 2 ^ k / 65536:Nat):Int),((i+1:Nat):Int)),?_,⟨i+1,by omega,rfl,zn hd1 (by omega) (by omega),by simp [hlen],?_,?_⟩,by simp;omega⟩
      · have hi1 : IntKind.i64.wrap ((i : Int) + 1) = ((i + 1 : Nat) : Int) := by rw [jd (by omega) (by omega)]; omega
        have hix:idx (x.set i ((2 ^ k * (fP a i % 2 ^ (16 - k))+fP x i:Nat):Int)) ((i+1:Nat):Int)=some ((fP (x.set i ((2 ^ k * (fP a i % 2 ^ (16 - k))+fP x i:Nat):Int)) (i+1):Nat):Int):=ny hd1 (by simp;omega)
        have hshr:vG .u32 ((fP a i * 2 ^ k:Nat):Int) 16=some ((fP a i * 2 ^ k / 65536:Nat):Int):=by rw [Ob (by decide),Int.natCast_ediv];rfl
        have hsl:yS .u32 ((fP a i:Nat):Int) (k:Int)=some ((fP a i * 2 ^ k:Nat):Int):=ZJ (by omega) (by omega)
        simp (disch:=omega) only [aW,dT,iP,ny ha,ny hd,bS,ZG,hsl,Yb,or16 hg hlt2,hshr,hi1,Int.toNat_natCast,hix]
        rw [show IntKind.u16.wrap ((fP a i * 2 ^ k / 65536:Nat):Int)=((fP a i * 2 ^ k / 65536:Nat):Int) by rw [KZ];omega]
      · rw [pK (by simp;omega),Int.toNat_natCast];exact hdiv
      · rw [dQ, dQ, wQ (by omega), wQ (Nat.le_refl i), pK (by simp; omega), La (by omega), pK (by omega), Int.toNat_natCast, Int.toNat_natCast, ← hmod, dQ]
        rw [dQ] at hv
        have h2:=Nat.mod_add_div (fP a i * 2 ^ k) 65536
        rw [Nat.pow_succ]
        generalize (fP a i * 2 ^ k) % 65536=mm at *
        generalize (fP a i * 2 ^ k) / 65536=dd at *
        generalize 65536 ^ i=P at *
        have h3:P * (mm+65536 * dd)=P * (fP a i * 2 ^ k):=by rw [h2]
        clear hmod Yb hd1 hsp hw hlt2 hdiv
        grind
    · obtain rfl : i = a.length := by omega
      refine .inr ⟨x,?_,hd,hlen,?_⟩
      · simp (disch:=omega) only [aW,dF,iT]
      · rw [List.take_of_length_le (by omega),List.take_length] at hv;exact hv) N (List.replicate (a.length+1) 0,0) ⟨0,by omega,rfl,G5 _,by simp,by rw [RX];exact hk0,by rw [dQ,RX];simp [val]⟩ (by simp;omega)
  rw [ho]
  exact ⟨o,rfl,hp⟩

def VS:Str:=[0,1,2,2,3,3,3,3,4,4,4,4,4,4,4,4,5,5,5,5,5,5,5,5,5,5,5,5,5,5,5,5,6,6,6,6,6,6,6,6,6,6,6,6,6,6,6,6,6,6,6,6,6,6,6,6,6,6,6,6,6,6,6,6,7,7,7,7,7,7,7,7,7,7,7,7,7,7,7,7,7,7,7,7,7,7,7,7,7,7,7,7,7,7,7,7,7,7,7,7,7,7,7,7,7,7,7,7,7,7,7,7,7,7,7,7,7,7,7,7,7,7,7,7,7,7,7,7,8,8,8,8,8,8,8,8,8,8,8,8,8,8,8,8,8,8,8,8,8,8,8,8,8,8,8,8,8,8,8,8,8,8,8,8,8,8,8,8,8,8,8,8,8,8,8,8,8,8,8,8,8,8,8,8,8,8,8,8,8,8,8,8,8,8,8,8,8,8,8,8,8,8,8,8,8,8,8,8,8,8,8,8,8,8,8,8,8,8,8,8,8,8,8,8,8,8,8,8,8,8,8,8,8,8,8,8,8,8,8,8,8,8,8,8,8,8,8,8,8,8,8,8,8,8,8,8]
theorem XD:((List.range 256).all fun i=>match idx VS (i:Int) with | some c=>Nat.beq i 0||(Nat.blt i (2 ^ c.toNat)&&Nat.ble (2 ^ c.toNat) (2 * i)&&Nat.ble c.toNat 8) | none=>false)=true:=by kernel_rfl
theorem RY {i:Nat} (hi:i<256) (h0:i≠0):∃ c:UInt8,idx VS (i:Int)=some c∧i<2 ^ c.toNat∧2 ^ c.toNat≤2 * i∧c.toNat≤8:=by
 have:=List.all_eq_true.1 XD i (List.mem_range.2 hi)
 cases hx:idx VS (i:Int) with
 | none=>rw [hx] at this;cases this
 | some c =>
  rw [hx] at this
  simp only [Bool.or_eq_true,Bool.and_eq_true,Nat.beq_eq,Nat.blt_eq,Nat.ble_eq] at this
  rcases this with h | ⟨⟨h1,h2⟩,h3⟩
  ·exact absurd h h0
  ·exact ⟨c,rfl,h1,h2,h3⟩
theorem TR {N:Nat} {x:Int}:wY N x=bif (aB .geq x 256) then ((vG .u16 x 8).bind fun v1=>(idx VS (IntKind.u8.wrap v1)).bind fun v2=>some (IntKind.i64.wrap (8+(IntKind.i64.wrap ((UInt8.toNat v2:Nat):Int))))) else ((idx VS (IntKind.u8.wrap x)).bind fun v3=>some (IntKind.i64.wrap (0+(IntKind.i64.wrap ((UInt8.toNat v3:Nat):Int))))):=rfl
theorem lz16 {N d:Nat} (h0:d≠0) (hd:d<65536):∃ k:Nat,k≤15∧nC N (d:Int)=some (k:Int)∧32768≤d * 2 ^ k∧(d+1) * 2 ^ k≤65536:=by
  have key:∃ t:Nat,t≤16∧1≤t∧wY N (d:Int)=some (t:Int)∧d<2 ^ t∧2 ^ t≤2 * d:=by
    rw [TR]
    by_cases h:d<256
    · obtain ⟨c,h1,h2,h3,h4⟩:=RY h h0
      refine ⟨c.toNat,by omega,?_,?_,h2,h3⟩
      · rcases Nat.eq_zero_or_pos c.toNat with h5 | h5
        · rw [h5] at h2;omega
        · exact h5
      · rw [jD, dF (by omega), iT, show IntKind.u8.wrap (d : Int) = d by rw [IntKind.wrap_u8]; omega, h1, bS, jd (n := ((UInt8.toNat c : Nat) : Int)) (by omega) (by omega), jd (by omega) (by omega)]
        simp
    · obtain ⟨c, h1, h2, h3, h4⟩ := RY (i := d / 256) (by omega) (by omega)
      have hp:2 ^ (8+c.toNat)=256 * 2 ^ c.toNat:=by rw [Nat.pow_add]
      refine ⟨8+c.toNat,by omega,by omega,?_,by omega,by omega⟩
      have hs:vG .u16 (d:Int) 8=some ((d / 256:Nat):Int):=by
        unfold vG
        rw [if_neg (by decide),show min (Int.toNat 8) IntKind.u16.bits=8 by decide,Int.fdiv_eq_ediv_of_nonneg _ (by decide)]
        rfl
      rw [jD,dT (by omega),iP,hs,bS,show IntKind.u8.wrap ((d / 256:Nat):Int)=((d / 256:Nat):Int) by rw [IntKind.wrap_u8];omega,h1,bS,jd (n:=((UInt8.toNat c:Nat):Int)) (by omega) (by omega),jd (by omega) (by omega)]
      congr 1
  obtain ⟨t,h1,h2,h3,h4,h5⟩:=key
  refine ⟨16 - t,by omega,?_,?_,?_⟩
  · unfold nC
    rw [h3,bS,jd (by omega) (by omega)]
    congr 1;omega
  · have:=Ei h1
    have h6:=Nat.mul_le_mul_right (2 ^ (16 - t)) h5
    rw [← this,Nat.mul_assoc] at h6
    omega
  · have:=Ei h1
    have h6:=Nat.mul_le_mul_right (2 ^ (16 - t)) (show d+1≤2 ^ t from h4)
    omega
end Go.KB
namespace Go.KB
set_option linter.unusedVariables false
theorem AX {l:List Int} {k:Nat} (h:val l<65536 ^ k):val (l.take k)=val l:=by
 have h1:=GZ l k
 rcases Nat.eq_zero_or_pos (val (l.drop k)) with h2 | h2
 ·rw [h2] at h1;omega
 ·exfalso
  have:65536 ^ k * 1≤65536 ^ k * val (l.drop k):=Nat.mul_le_mul_left _ h2
  omega
theorem LP {l:List Int} {k:Nat} (h:val l<65536 ^ k):val (l.drop k)=0:=by
 have h1:=GZ l k
 rcases Nat.eq_zero_or_pos (val (l.drop k)) with h2 | h2
 ·exact h2
 ·exfalso
  have:65536 ^ k * 1≤65536 ^ k * val (l.drop k):=Nat.mul_le_mul_left _ h2
  omega
theorem I5 {a r U V:Nat} (hV:0<V) (hr:r=U % V):(a+65536 * r) % V=(a+65536 * U) % V∧(a+65536 * r) / V+65536 * (U / V)=(a+65536 * U) / V:=by
 have h1:=Nat.div_add_mod U V
 have h2:a+65536 * U=(a+65536 * r)+V * (65536 * (U / V)):=by
  rw [hr]
  have:V * (65536 * (U / V))=65536 * (V * (U / V)):=by rw [Nat.mul_left_comm]
  omega
 rw [h2]
 exact ⟨by rw [Nat.add_mul_mod_self_left],by rw [Nat.add_mul_div_left _ _ hV]⟩
theorem P5 {N:Nat} {u v:List Int} (hu:sD u) (hv:sD v) (hn:2≤v.length) (ZI:v.length<u.length) (hl:u.length≤1000000) (ht:32768≤fP v (v.length - 1)) (htop:val (u.drop (u.length - v.length))<val v) (hN:2 ^ 64≤N) :
    ∃ o,aX (oD N v) N (List.replicate (u.length - v.length) 0,u,((u.length - v.length:Nat):Int) - 1)=some o∧sD o.1∧o.1.length=u.length - v.length∧val o.1=val u / val v∧sD o.2∧o.2.length=u.length∧val o.2=val u % val v:=by
  have hV0:0<val v:=by omega
  refine jb (f := oD N v) (fun s => ∃ j : Nat, j ≤ u.length - v.length ∧ s.2.2 = (j : Int) - 1 ∧ sD s.1 ∧ s.1.length = u.length - v.length ∧ sD s.2.1 ∧ s.2.1.length = u.length ∧ val (s.2.1.drop j) = val (u.drop j) % val v ∧ val (s.1.drop j) = val (u.drop j) / val v ∧ s.2.1.take j = u.take j) (fun s => (s.2.2 + 1).toNat) _ ?_ N _
    ⟨u.length - v.length,Nat.le_refl _,rfl,G5 _,by simp,hu,rfl,by rw [Nat.mod_eq_of_lt htop],by rw [Nat.div_eq_of_lt htop];simp [val],rfl⟩ (by simp only [];omega)
  rintro ⟨q,x,jj⟩ ⟨j,hj,hs,PW,Wn,ZL,hxl,hmod,hdiv,htk⟩
  simp only at hs PW Wn ZL hxl hmod hdiv htk;subst hs
  unfold oD
  cases j with
  | zero =>
    refine .inr ⟨(q,x),?_,PW,Wn,by simpa using hdiv,ZL,hxl,by simpa using hmod⟩
    simp
  | succ j =>
    have ej:((j+1:Nat):Int) - 1=(j:Int):=by omega
    have hR:val (u.drop (j+1)) % val v<val v:=Nat.mod_lt _ hV0
    have hxj:fP x j=fP u j:=by
      have h1:=congrArg (fun l=>fP l j) htk
      simpa [fP,List.getElem?_take] using h1
    have hgj:=lW hu j
    have hxd:=yL x j
    rw [hxj,hmod] at hxd
    have hVn:val v<65536 ^ v.length:=tu hv
    have hxlt:val (x.drop j)<65536 * val v:=by
      have:=Nat.mul_le_mul_left 65536 (show val (u.drop (j+1)) % val v+1≤val v from hR)
      omega
    have VT:val (x.drop j)<65536 ^ (v.length+1):=by rw [Nat.pow_succ];omega
    have hsl:((x.drop j).take (v.length+1)).length=v.length+1:=by rw [List.length_take,List.length_drop];omega
    obtain ⟨y,hy,hdy,hyl,hyv⟩:=digit_eq (N:=N) (u:=(x.drop j).take (v.length+1)) (v:=v) (uj (GY ZL j) _) hv hn hsl (by omega) ht (by rw [AX VT];exact hxlt) hN
    rw [AX VT] at hy hyv
    have hz:=LP VT
    rw [List.drop_drop] at hz
    obtain ⟨sm,sd⟩:=I5 (a:=fP u j) hV0 (rfl:val (u.drop (j+1)) % val v=_)
    rw [← hxd] at sm sd
    have hud:=yL u j
    rw [← hud] at sm sd
    have hdx':sD (x.take j ++ y ++ x.drop (j+(v.length+1))):=Eh (Eh (uj ZL _) hdy) (GY ZL _)
    have hqd:val (x.drop j) / val v<65536:=by rw [Nat.div_lt_iff_lt_mul hV0];exact hxlt
    refine .inl ⟨(q.set j ((val (x.drop j) / val v:Nat):Int),x.take j ++ y ++ x.drop (j+(v.length+1)),(j:Int) - 1),?_,
      ⟨j,by omega,rfl,zn PW (Int.natCast_nonneg _) (Int.ofNat_lt.2 hqd),by simp [Wn],hdx',?_,?_,?_,?_⟩,by simp only [];omega⟩
    · simp only [ej]
      have e1:IntKind.i64.wrap (IntKind.i64.wrap ((j:Int)+(v.length:Int))+1)=((j+(v.length+1):Nat):Int):=by rw [jd (n:=(j:Int)+(v.length:Int)) (by omega) (by omega),jd (by omega) (by omega)];omega
      have ZM:MB x (j:Int) ((j+(v.length+1):Nat):Int)=some ((x.take (j+(v.length+1))).drop j):=by
        unfold MB
        rw [show (decide ((0:Int)≤(j:Int))&&decide ((j:Int)≤((j+(v.length+1):Nat):Int))&&decide (((j+(v.length+1):Nat):Int)≤(x.length:Int)))=true by simp only [Bool.and_eq_true,decide_eq_true_eq];omega,iP,Int.toNat_natCast,Int.toNat_natCast]
      rw [jD,dT (by omega),iP,e1,ZM,bS,Int.toNat_natCast,Int.toNat_natCast,show j+(v.length+1) - j=v.length+1 by omega,hy,bS,ny PW (by omega),bS,jd (n:=(j:Int) - 1) (by omega) (by omega)]
    · simp only [List.length_append,List.length_take,List.length_drop];omega
    · have:(x.take j ++ y ++ x.drop (j+(v.length+1))).drop j=y ++ x.drop (j+(v.length+1)):=by
        rw [List.append_assoc,List.drop_left' (by rw [List.length_take];omega)]
      rw [this,val_append,hz,Nat.mul_zero,Nat.add_zero,hyv,sm]
    · rw [yL,pK (by omega),Int.toNat_natCast,zo (by omega),hdiv,sd]
    · rw [List.append_assoc, List.take_append_of_le_length (by rw [List.length_take]; omega), List.take_take, Nat.min_self]
      have:=congrArg (List.take j) htk
      simpa [List.take_take] using this
theorem QX {A B Z k:Nat} (hk:k≤15):(A+65536 * B+65536 * (65536 * Z)) / 2 ^ k % 65536=(A+65536 * B) / 2 ^ k % 65536:=by
 have hsp:=Ei (show k≤16 by omega)
 have h0:0<2 ^ k:=Nat.pow_pos (by decide)
 have:A+65536 * B+65536 * (65536 * Z)=(A+65536 * B)+2 ^ k * (2 ^ (16 - k) * Z * 65536):=by
  have e:65536 * (65536 * Z)=(2 ^ k * 2 ^ (16 - k)) * (65536 * Z):=by rw [← hsp]
  rw [e]
  congr 1
  rw [Nat.mul_assoc,Nat.mul_comm 65536 Z,← Nat.mul_assoc (2 ^ (16 - k))]
 rw [this,Nat.add_mul_div_left _ _ h0,Nat.add_mul_mod_self_right]
theorem P6 {N k:Nat} {q x v:List Int} (hx:sD x) (hk:k≤15) (hl:x.length≤1000000) (hvl:v.length<x.length) (hN:2 ^ 64≤N) :
    ∃ o,aX (oG N (k:Int) v (q,x)) N (List.replicate v.length 0,0)=some o∧sD o∧o.length=v.length∧val o=val x / 2 ^ k % 65536 ^ v.length:=by
  refine jb (f:=oG N (k:Int) v (q,x)) (fun s=>∃ i:Nat,i≤v.length∧s.2=(i:Int)∧sD s.1∧s.1.length=v.length∧val (s.1.take i)=val x / 2 ^ k % 65536 ^ i) (fun s=>v.length - s.2.toNat) _ ?_ N _ ⟨0,by omega,rfl,G5 _,by simp,by simp [val,Nat.mod_one]⟩ (by simp only [];omega)
  rintro ⟨r,ii⟩ ⟨i,hi,hs,hd,hlen,hval⟩
  simp only at hs hd hlen hval;subst hs
  unfold oG
  by_cases hlt:i<v.length
  · have h1:=lW hx i
    have h2:=lW hx (i+1)
    have hdg:(fP x i+65536 * fP x (i+1)) / 2 ^ k % 65536=val x / 2 ^ k / 65536 ^ i % 65536:=by
      have hcm:val x / 2 ^ k / 65536 ^ i=val x / 65536 ^ i / 2 ^ k:=by rw [Nat.div_div_eq_div_mul,Nat.div_div_eq_div_mul,Nat.mul_comm (2 ^ k)]
      rw [hcm]
      have h3:=GZ x i
      have h4:val (x.take i)<65536 ^ i:=Nat.lt_of_lt_of_le (tu (uj hx i)) (Nat.pow_le_pow_right (by decide) (by rw [List.length_take];omega))
      have h5:val x / 65536 ^ i=val (x.drop i):=by
        rw [h3,Nat.add_mul_div_left _ _ (Nat.pow_pos (by decide)),Nat.div_eq_of_lt h4,Nat.zero_add]
      rw [h5,yL x i,yL x (i+1),Nat.mul_add,← Nat.add_assoc,QX hk]
    refine .inl ⟨(r.set i (((fP x i+65536 * fP x (i+1)) / 2 ^ k % 65536:Nat):Int),((i+1:Nat):Int)),?_,⟨i+1,by omega,rfl,zn hd (by omega) (by omega),by simp [hlen],?_⟩,by simp;omega⟩
    · have hi1 : IntKind.i64.wrap ((i : Int) + 1) = ((i + 1 : Nat) : Int) := by rw [jd (by omega) (by omega)]; omega
      have hsl:yS .u32 ((fP x (i+1):Nat):Int) 16=some ((65536 * fP x (i+1):Nat):Int):=PV (by omega)
      have hor:iY .or .u32 ((fP x i:Nat):Int) ((65536 * fP x (i+1):Nat):Int)=((65536 * fP x (i+1)+fP x i:Nat):Int):=or32' h1 (by omega)
      have hsr:vG .u32 ((65536 * fP x (i+1)+fP x i:Nat):Int) (k:Int)=some (((65536 * fP x (i+1)+fP x i) / 2 ^ k:Nat):Int):=ZK (by omega)
      simp (disch:=omega) only [aW,dT,iP,ny hx,ny hd,bS,ZG,hi1,hsl,hor,hsr,KZ,Int.toNat_natCast]
      rw [Nat.add_comm (65536 * fP x (i+1))]
      rfl
    · rw [dQ,wQ (Nat.le_refl i),pK (by omega),Int.toNat_natCast,hval,hdg,Nat.pow_succ,Nat.mod_mul]
  · obtain rfl : i = v.length := by omega
    refine .inr ⟨r,?_,hd,hlen,?_⟩
    · simp (disch:=omega) only [aW,dF,iT]
    · rw [List.take_of_length_le (by omega)] at hval;exact hval
theorem IB {N m n:Nat} (hn0:n≠0) (hm:nl m≤900000) (hn:nl n≤900000) (hN:2 ^ 64≤N):lG N (limbs m) (limbs n)=some (limbs (m / n),limbs (m % n)):=by
  by_cases hone:nl n=1
  · exact QU hn0 (by have:=Aq n;rw [hone] at this;omega) (by rw [mP];omega) hN
  have hpos:=FI hn0
  unfold lG
  obtain ⟨c,hc,P7,_⟩:=KY (N:=N) (a:=m) (b:=n) (by rw [mP];omega) (by rw [mP];omega) hN
  rw [hc,bS,aW]
  by_cases hlt:m<n
  · rw [dT (P7.2 hlt),iP,KW (by rw [mP];unfold lim;omega),bS,Nat.div_eq_of_lt hlt,Nat.mod_eq_of_lt hlt,jB]
  · rw [dF (fun h => hlt (P7.1 h)), iT, lK, dF (by rw [mP]; omega), iT]
    have hmn:nl n≤nl m:=uG (by omega)
    have hda:=gm m
    have hdb:=gm n
    have htop:=VG (n:=n) (fun h=>hn0 (Iy.1 h))
    rw [mP] at htop
    have htl:=lW hdb (nl n - 1)
    obtain ⟨k,hk,hlz,hk1,hk2⟩:=lz16 (N:=N) htop htl
    have e1:IntKind.i64.wrap (((limbs n).length:Int) - 1)=((nl n - 1:Nat):Int):=by rw [mP,jd (by omega) (by omega)];omega
    obtain ⟨x,hx,ZL,hxl,hxv⟩:=Le (N:=N) (k:=k) hda hk (by rw [mP];omega) hN
    obtain ⟨y,hy,hdy,hyl,hyv⟩:=Le (N:=N) (k:=k) hdb hk (by rw [mP];omega) hN
    rw [mP] at hxl hyl
    rw [iO] at hxv hyv
    have h2k:0<2 ^ k:=Nat.pow_pos (by decide)
    have h15:2 ^ k≤32768:=Nat.pow_le_pow_right (by decide) hk
    -- the divisor
    have hnb:fP (limbs n) (nl n - 1) * 65536 ^ (nl n - 1)≤n∧n<(fP (limbs n) (nl n - 1)+1) * 65536 ^ (nl n - 1):=by
      have h1:=dQ (limbs n) (nl n - 1)
      rw [List.take_of_length_le (by rw [mP];omega),iO] at h1
      have h2:=tu (uj hdb (nl n - 1))
      rw [List.length_take,mP,Nat.min_eq_left (by omega)] at h2
      constructor
      · have e:=Nat.mul_comm (fP (limbs n) (nl n - 1)) (65536 ^ (nl n - 1));omega
      · have e : (fP (limbs n) (nl n - 1) + 1) * 65536 ^ (nl n - 1) = 65536 ^ (nl n - 1) * fP (limbs n) (nl n - 1) + 65536 ^ (nl n - 1) := by rw [Nat.add_mul, Nat.one_mul, Nat.mul_comm]
        omega
    have hPn:65536 ^ nl n=65536 * 65536 ^ (nl n - 1):=by rw [← Nat.pow_succ'];congr 1;omega
    have hyb:val y<65536 ^ nl n:=by
      rw [hyv,hPn]
      have h1:=Nat.mul_lt_mul_of_pos_right hnb.2 h2k
      have h2:=Nat.mul_le_mul_right (65536 ^ (nl n - 1)) hk2
      have e:(fP (limbs n) (nl n - 1)+1) * 65536 ^ (nl n - 1) * 2 ^ k=(fP (limbs n) (nl n - 1)+1) * 2 ^ k * 65536 ^ (nl n - 1):=by rw [Nat.mul_right_comm]
      omega
    have hya:32768 * 65536 ^ (nl n - 1)≤val y:=by
      rw [hyv]
      have h1:=Nat.mul_le_mul_right (2 ^ k) hnb.1
      have h2:=Nat.mul_le_mul_right (65536 ^ (nl n - 1)) hk1
      have e:fP (limbs n) (nl n - 1) * 65536 ^ (nl n - 1) * 2 ^ k=fP (limbs n) (nl n - 1) * 2 ^ k * 65536 ^ (nl n - 1):=by rw [Nat.mul_right_comm]
      omega
    have hvv:=AX hyb
    have hvl:(y.take (nl n)).length=nl n:=by rw [List.length_take];omega
    have hdv:=uj hdy (nl n)
    have hvt:32768≤fP (y.take (nl n)) (nl n - 1):=by
      have h1:=dQ (y.take (nl n)) (nl n - 1)
      rw [List.take_of_length_le (by omega),hvv] at h1
      have h2:=tu (uj hdv (nl n - 1))
      rw [List.length_take,hvl,Nat.min_eq_left (by omega)] at h2
      rcases Nat.lt_or_ge (fP (y.take (nl n)) (nl n - 1)) 32768 with h | h
      · exfalso
        have h3:=Nat.mul_le_mul_left (65536 ^ (nl n - 1)) (show fP (y.take (nl n)) (nl n - 1)≤32767 by omega)
        omega
      · exact h
    -- the first digits of the dividend are less
    have htopx:val (x.drop (nl m+1 - nl n))<val (y.take (nl n)):=by
      rw [hvv]
      have h1:=GZ x (nl m+1 - nl n)
      have h2:val x<65536 ^ nl m * 2 ^ k:=by rw [hxv];exact Nat.mul_lt_mul_of_pos_right (Aq m) h2k
      have h3:65536 ^ nl m=65536 ^ (nl m+1 - nl n) * 65536 ^ (nl n - 1):=by rw [← Nat.pow_add];congr 1;omega
      rcases Nat.lt_or_ge (val (x.drop (nl m+1 - nl n))) (val y) with h | h
      · exact h
      · exfalso
        have h4:65536 ^ (nl m+1 - nl n) * (32768 * 65536 ^ (nl n - 1))≤65536 ^ (nl m+1 - nl n) * val (x.drop (nl m+1 - nl n)):=Nat.mul_le_mul_left _ (by omega)
        have h5:65536 ^ nl m * 2 ^ k≤65536 ^ nl m * 32768:=Nat.mul_le_mul_left _ h15
        have h6:65536 ^ (nl m+1 - nl n) * (32768 * 65536 ^ (nl n - 1))=65536 ^ nl m * 32768:=by rw [h3];grind
        omega
    obtain ⟨o,ho,PW,Wn,XC,hdr,hrl,hrv⟩:=P5 (N:=N) ZL hdv (by omega) (by omega) (by omega) (by rw [hvl];exact hvt) (by rw [hvl,hxl];exact htopx) hN
    rw [hvl,hxl] at ho Wn
    obtain ⟨r,hr,hdrr,hrrl,hrrv⟩:=P6 (N:=N) (k:=k) (q:=o.1) (x:=o.2) (v:=y.take (nl n)) hdr hk (by omega) (by omega) hN
    rw [hvl] at hr hrrl hrrv
    have ZM:MB y 0 (((limbs n).length:Nat):Int)=some (y.take (nl n)):=by rw [mP];exact GU (by omega)
    have e2:IntKind.i64.wrap ((x.length:Int) - ((y.take (nl n)).length:Int))=((nl m+1 - nl n:Nat):Int):=by rw [hvl,jd (by omega) (by omega)];omega
    rw [e1,ny hdb (by rw [mP];omega),bS,hlz,bS,hx,bS,hy,bS,ZM,bS,e2,Ld (by omega) (by omega),bS,Int.toNat_natCast,jd (n:=((nl m+1 - nl n:Nat):Int) - 1) (by omega) (by omega)]
    rw [ho,bS,hvl,Ld (by omega) (by omega),bS,Int.toNat_natCast]
    rw [show o=(o.1,o.2) from rfl,hr,bS]
    have hq:val o.1=m / n:=by rw [XC,hvv,hxv,hyv];exact Nat.mul_div_mul_right _ _ h2k
    have hrem:val r=m % n:=by
      rw [hrrv,hrv,hvv,hxv,hyv,Nat.mul_mod_mul_right,Nat.mul_div_cancel _ h2k]
      exact Nat.mod_eq_of_lt (Nat.lt_trans (Nat.mod_lt _ (by omega)) (Aq n))
    rw [PX PW hq (by omega) (by omega),bS,PX hdrr hrem (by omega) (by omega),bS]

def Oe (a b:Nat):Nat:=(if a<b then 1 else 0)+(if a * b=0 then 0 else Nat.log2 (a * b)+1)
theorem TS {x y:Nat} (hx:x≠0) (h:2 * x≤y):Nat.log2 x+1≤Nat.log2 y:=by
 rw [Nat.le_log2 (by omega),Nat.pow_succ]
 have:=Nat.log2_self_le hx
 omega
theorem VU {a b:Nat} (hb:b≠0) (h:b≤a):2 * (a % b)≤a:=by
 have h1:=Nat.mod_lt a (Nat.pos_of_ne_zero hb)
 have h2:=Nat.div_add_mod a b
 have h3:1≤a / b:=(Nat.le_div_iff_mul_le (Nat.pos_of_ne_zero hb)).2 (by omega)
 have h4:=Nat.mul_le_mul_left b h3
 omega
theorem RZ {a b:Nat} (hb:b≠0):Oe b (a % b)<Oe a b:=by
 have hr:=Nat.mod_lt a (Nat.pos_of_ne_zero hb)
 unfold Oe
 rw [if_neg (by omega)]
 by_cases hab:a<b
 ·rw [if_pos hab,Nat.mod_eq_of_lt hab,Nat.mul_comm b a];omega
 ·rw [if_neg hab]
  have h0:a * b≠0:=Nat.mul_ne_zero (by omega) hb
  rw [if_neg h0]
  by_cases h1:b * (a % b)=0
  ·rw [if_pos h1];omega
  ·rw [if_neg h1]
   have h2:2 * (b * (a % b))≤a * b:=by
    have:=Nat.mul_le_mul_left b (VU hb (show b≤a by omega))
    rw [Nat.mul_left_comm,Nat.mul_comm b a] at this;omega
   have:=TS h1 h2
   omega
theorem Si {a b:Nat} (ha:nl a≤900000) (hb:nl b≤900000):Oe a b≤30000000:=by
 unfold Oe
 have h1:(if a<b then 1 else 0)≤1:=by split <;> omega
 have h2:(if a * b=0 then 0 else Nat.log2 (a * b)+1)≤28800001:=by
  split
  ·omega
  ·rename_i h
   have:Nat.log2 (a * b)<16 * (nl a+nl b):=by
    rw [Nat.log2_lt h]
    have:=Nat.mul_lt_mul'' (Aq a) (Aq b)
    rw [← Nat.pow_add] at this
    rwa [show (65536:Nat)=2 ^ 16 from rfl,← Nat.pow_mul] at this
   omega
 omega
theorem IC {N:Nat} {l:List Int} (hl:4<l.length):pG N l=some (0,false):=by
 unfold pG
 rw [fE,dT (by omega),iP]
theorem QY {N a b:Nat} (ha:nl a≤900000) (hb:nl b≤900000) (hN:2 ^ 64≤N):uJ N (limbs a) (limbs b)=some (limbs (Nat.gcd a b)):=by
  unfold uJ
  obtain ⟨o,ho,hp⟩:=jb (f:=qI N) (fun s=>∃ x y:Nat,s=(limbs x,limbs y)∧nl x≤900000∧nl y≤900000∧Nat.gcd x y=Nat.gcd a b) (fun s=>Oe (val s.1) (val s.2)) (fun o=>o = .inl (limbs (Nat.gcd a b))∨o = .inr (limbs (Nat.gcd a b))) (by
    rintro s ⟨x,y,rfl,hx,hy,hg⟩
    unfold qI
    by_cases hy0:y=0
    · subst hy0
      rw [Nat.gcd_zero_right] at hg
      subst hg
      refine .inr ⟨.inl (limbs (Nat.gcd a b)),?_,.inl rfl⟩
      rw [jB];simp
    · have hyp:=FI hy0
      have hd:lG N (limbs x) (limbs y)=some (limbs (x / y),limbs (x % y)):=IB hy0 hx hy hN
      have hml:nl (x % y)≤nl y:=uG (Nat.le_of_lt (Nat.mod_lt _ (Nat.pos_of_ne_zero hy0)))
      have hgn:Nat.gcd y (x % y)=Nat.gcd a b:=by rw [← hg,Nat.gcd_comm y,← Nat.gcd_rec,Nat.gcd_comm]
      have hnext:some (Sum.inl (limbs y,limbs (x % y)))=(some (.inl (limbs y,limbs (x % y))):Option ((List Int×List Int) ⊕ (List Int ⊕ List Int)))→((∃ s',(some (Sum.inl (limbs y,limbs (x % y))):Option ((List Int×List Int) ⊕ (List Int ⊕ List Int)))=some (.inl s')∧(∃ x' y':Nat,s'=(limbs x',limbs y')∧nl x'≤900000∧nl y'≤900000∧Nat.gcd x' y'=Nat.gcd a b)∧Oe (val s'.1) (val s'.2)<Oe (val (limbs x,limbs y).1) (val (limbs x,limbs y).2))):=fun _ =>
        ⟨_,rfl,⟨y,x % y,rfl,hy,by omega,hgn⟩,by simp only [iO];exact RZ hy0⟩
      simp only [fE,mP]
      rw [dT (show (0:Int)<(nl y:Int) by omega),iP]
      by_cases h4:nl x≤4
      · by_cases h5 : nl y ≤ 4
        · have hxb : x < 18446744073709551616 := Nat.lt_of_lt_of_le (Aq x) (by have := Nat.pow_le_pow_right (n := 65536) (by decide) h4; simpa using this)
          have hyb:y<18446744073709551616:=Nat.lt_of_lt_of_le (Aq y) (by have:=Nat.pow_le_pow_right (n:=65536) (by decide) h5;simpa using this)
          have hgb:Nat.gcd x y≤y:=Nat.gcd_le_right x (by omega)
          rw [Jy (gm x) h4 (by omega),bS,Jy (gm y) h5 (by omega),bS]
          simp only [Bool.and_true,iP,iO]
          rw [VE (uD N) (fun s=>rfl) (by omega),bS,FD (by omega) (by omega),bS,hg]
          exact .inr ⟨_,rfl,.inr rfl⟩
        · rw [Jy (gm x) h4 (by omega), bS, IC (by rw [mP]; omega), bS]
          simp only [Bool.and_false,iT]
          rw [hd,bS]
          exact .inl (hnext rfl)
      · rw [IC (by rw [mP]; omega), bS]
        cases hw:pG N (limbs y) with
        | none =>
          by_cases h5:nl y≤4
          · rw [Jy (gm y) h5 (by omega)] at hw;cases hw
          · rw [IC (by rw [mP];omega)] at hw;cases hw
        | some w =>
          rw [bS]
          simp only [Bool.false_and,iT]
          rw [hd,bS]
          exact .inl (hnext rfl)) N _ ⟨a,b,rfl,ha,hb,rfl⟩ (by simp only [iO];have:=Si ha hb;omega)
  rw [ho,bS]
  rcases hp with rfl | rfl <;> rfl
end Go.KB
namespace Go.KB
set_option linter.unusedVariables false
def gW (x:ig):Int:=if x.Neg then -(val x.Limbs:Int) else (val x.Limbs:Int)
def I (z:Int):ig:=⟨decide (z<0),limbs z.natAbs⟩
theorem VW {s:Bool} {n:Nat}:VD s n=I (bif s then -(n:Int) else (n:Int)):=by
 unfold VD I
 cases s with
 | false=>simp
 | true =>
  simp only [iP,Bool.true_and,Int.natAbs_neg,Int.natAbs_natCast,ig.mk.injEq,and_true]
  rw [decide_eq_decide];omega
theorem vI (z:Int):gW (I z)=z:=by
 unfold gW I
 simp only [iO,decide_eq_true_eq]
 split <;> omega
theorem pF (x:ig):(gW x).natAbs=val x.Limbs:=by unfold gW;split <;> omega
def Sz (k:Nat) (q:Rat):Prop:=q.num.natAbs+q.den≤2 ^ k
theorem Sz.mono {k l:Nat} {q:Rat} (h:Sz k q) (hl:k≤l):Sz l q:=Nat.le_trans h (Nat.pow_le_pow_right (by decide) hl)
theorem Sz.of {k:Nat} {a b:Int} (hb:b≠0) (h:a.natAbs+b.natAbs≤2 ^ k):Sz k ((a:Rat) / (b:Rat)):=by
 unfold Sz
 rw [← Rat.divInt_eq_div,Rat.num_divInt,Rat.den_divInt,if_neg hb]
 have hg:0<Int.gcd b a:=Int.gcd_pos_of_ne_zero_left _ hb
 have h1:(b.sign * a / (Int.gcd b a:Int)).natAbs≤a.natAbs:=by
  have hd:((Int.gcd b a:Nat):Int) ∣ b.sign * a:=Int.dvd_mul_of_dvd_right (Int.gcd_dvd_right ..)
  rw [Int.natAbs_ediv_of_dvd hd,Int.natAbs_natCast,Int.natAbs_mul]
  have:b.sign.natAbs=1:=by rw [Int.natAbs_sign_of_ne_zero hb]
  rw [this,Nat.one_mul]
  exact Nat.div_le_self _ _
 have h2:b.natAbs / Int.gcd b a≤b.natAbs:=Nat.div_le_self _ _
 omega
theorem IE {a b c d k l:Nat} (h1:a+b≤2 ^ k) (h2:c+d≤2 ^ l):a * c+b * d+(a * d+b * c)≤2 ^ (k+l):=by
 have:=Nat.mul_le_mul h1 h2
 rw [← Nat.pow_add] at this
 have e:(a+b) * (c+d)=a * c+b * d+(a * d+b * c):=by grind
 omega
theorem CU (q:Rat):q=(q.num:Rat) / ((q.den:Int):Rat):=by rw [← Rat.divInt_eq_div];exact (Rat.num_divInt_den q).symm
theorem vJ (q:Rat):(q.den:Int)≠0:=by have:=q.den_pos;omega
theorem CV {n:Int} (h:n≠0):(n:Rat)≠0:=fun e=>h (by exact_mod_cast e)
theorem Sz.mul {k l:Nat} {p q:Rat} (hp:Sz k p) (hq:Sz l q):Sz (k+l) (p * q):=by
 have e:p * q=((p.num * q.num:Int):Rat) / ((p.den * q.den:Int):Rat):=by
  conv=>lhs;rw [CU p,CU q]
  have h1:=CV (vJ p);have h2:=CV (vJ q)
  rw [Rat.intCast_mul,Rat.intCast_mul]
  grind
 rw [e]
 refine Sz.of (Int.mul_ne_zero (vJ p) (vJ q)) ?_
 rw [Int.natAbs_mul,Int.natAbs_mul,Int.natAbs_natCast,Int.natAbs_natCast]
 have:=IE hp hq
 omega
theorem Sz.add {k l:Nat} {p q:Rat} (hp:Sz k p) (hq:Sz l q):Sz (k+l) (p+q):=by
 have e:p+q=((p.num * q.den+q.num * p.den:Int):Rat) / ((p.den * q.den:Int):Rat):=by
  conv=>lhs;rw [CU p,CU q]
  have h1:=CV (vJ p);have h2:=CV (vJ q)
  rw [Rat.intCast_mul,Rat.intCast_add,Rat.intCast_mul,Rat.intCast_mul]
  grind
 rw [e]
 refine Sz.of (Int.mul_ne_zero (vJ p) (vJ q)) ?_
 have h1:=Int.natAbs_add_le (p.num * q.den) (q.num * p.den)
 rw [Int.natAbs_mul,Int.natAbs_mul,Int.natAbs_natCast,Int.natAbs_natCast] at h1
 rw [Int.natAbs_mul,Int.natAbs_natCast,Int.natAbs_natCast]
 have h2:=IE hp hq
 have h3:=Nat.mul_comm q.num.natAbs p.den
 omega
theorem Sz.neg {k:Nat} {p:Rat} (hp:Sz k p):Sz k (-p):=by unfold Sz;rw [Rat.neg_num,Rat.neg_den,Int.natAbs_neg];exact hp
theorem Sz.sub {k l:Nat} {p q:Rat} (hp:Sz k p) (hq:Sz l q):Sz (k+l) (p - q):=by rw [Rat.sub_eq_add_neg];exact hp.add hq.neg
theorem Sz.int {k:Nat} {n:Int} (h:n.natAbs<2 ^ k):Sz k (n:Rat):=by unfold Sz;rw [Rat.num_intCast,Rat.den_intCast];omega
theorem Sz.zero:Sz 0 0:=by unfold Sz;simp
theorem Sz.div {k l:Nat} {p q:Rat} (hp:Sz k p) (hq:Sz l q):Sz (k+l) (p / q):=by
  by_cases h0:q=0
  · subst h0
    have e:p / 0=0:=by grind
    rw [e];exact Sz.zero.mono (Nat.zero_le _)
  · have hn : q.num ≠ 0 := fun e => h0 (Rat.num_eq_zero.1 e)
    have e:p / q=((p.num * q.den:Int):Rat) / ((p.den * q.num:Int):Rat):=by
      conv=>lhs;rw [CU p,CU q]
      have h1:=CV (vJ p);have h2:=CV (vJ q);have h3:=CV hn
      rw [Rat.intCast_mul,Rat.intCast_mul]
      grind
    rw [e]
    refine Sz.of (Int.mul_ne_zero (vJ p) hn) ?_
    rw [Int.natAbs_mul,Int.natAbs_mul,Int.natAbs_natCast,Int.natAbs_natCast]
    have:=IE hp hq
    omega
theorem Og {n k:Nat} (h:n≤2 ^ k):nl n≤k / 16+1:=by
 refine DZ ?_
 rw [show (65536:Nat)=2 ^ 16 from rfl,← Nat.pow_mul]
 exact Nat.lt_of_le_of_lt h (Nat.pow_lt_pow_right (by decide) (by omega))
def R (q:Rat):jq:=⟨I q.num,I (q.den:Int)⟩
def below (x:jq):Int:=if gW x.Ol=0 then 1 else gW x.Ol
def rv (x:jq):Rat:=(gW x.Num:Rat) / (below x:Rat)
theorem VX (x:jq):below x≠0:=by unfold below;split <;> omega
theorem rv_R (q:Rat):rv (R q)=q:=by
 unfold rv below R
 simp only [vI,if_neg (vJ q)]
 exact (CU q).symm
structure Qf (k:Nat) (x:jq) (q:Rat):Prop where
 dn:sD x.Num.Limbs
 dd:sD x.Ol.Limbs
 ln:x.Num.Limbs.length≤k / 16+1
 ld:x.Ol.Limbs.length≤k / 16+1
 vq:rv x=q
theorem Qf.R {k:Nat} {q:Rat} (h:Sz k q):Qf k (KB.R q) q:=by
 refine ⟨gm _,gm _,Og ?_,Og ?_,rv_R q⟩
 ·unfold Sz at h;omega
 ·unfold Sz at h;rw [Int.natAbs_natCast];omega
theorem Qf.mono {k l:Nat} {x:jq} {q:Rat} (h:Qf k x q) (hl:k≤l):Qf l x q:=⟨h.dn,h.dd,by have:=h.ln;omega,by have:=h.ld;omega,h.vq⟩
theorem gI16 {n:Int} (h:gI .u16 n):0≤n∧n<65536:=by
 obtain ⟨a,b⟩:=h
 have e1:IntKind.u16.min=0:=by decide
 have e2:IntKind.u16.max=65535:=by decide
 omega
theorem Qf.raw {k:Nat} {x:jq} (h:x.ok) (h1:x.Num.Limbs.length≤k / 16+1) (h2:x.Ol.Limbs.length≤k / 16+1):Qf k x (rv x):=by
 obtain ⟨⟨_,⟨_,h3⟩,_⟩,⟨_,⟨_,h4⟩,_⟩,_⟩:=h
 exact ⟨fun d hd=>gI16 (h3 d hd),fun d hd=>gI16 (h4 d hd),h1,h2,rfl⟩
theorem Lh {k:Nat} {l:List Int} (hd:sD l) (hl:l.length≤k / 16+1):val l<2 ^ (k+16):=by
 have:=tu hd
 refine Nat.lt_of_lt_of_le this ?_
 rw [show (65536:Nat)=2 ^ 16 from rfl,← Nat.pow_mul]
 exact Nat.pow_le_pow_right (by decide) (by omega)
theorem Qf.sz {k:Nat} {x:jq} {q:Rat} (h:Qf k x q):Sz (k+17) q:=by
 rw [← h.vq]
 refine Sz.of (VX x) ?_
 have h1:=Lh h.dn h.ln
 have h2:=Lh h.dd h.ld
 have h3:=pF x.Num
 have h4:(below x).natAbs≤2 ^ (k+16):=by
  unfold below
  have:=pF x.Ol
  split
  ·exact Nat.one_le_two_pow
  ·omega
 have:2 ^ (k+17)=2 * 2 ^ (k+16):=by rw [← Nat.pow_succ']
 omega
end Go.KB
namespace Go.KB
set_option linter.unusedVariables false
structure Io (k:Nat) (x:ig):Prop where
 dl:sD x.Limbs
 ll:x.Limbs.length≤k
theorem nlv {l:List Int} (h:sD l):nl (val l)≤l.length:=DZ (tu h)
theorem Io.I {k:Nat} {z:Int} (h:nl z.natAbs≤k):Io k (KB.I z):=⟨gm _,h⟩
theorem Io.nl {k:Nat} {x:ig} (h:Io k x):nl (gW x).natAbs≤k:=by rw [pF];exact Nat.le_trans (nlv h.dl) h.ll
theorem P8 {N k:Nat} {x:ig} (h:Io k x) (hk:k≤900000) (hN:2 ^ 64≤N):jX N x.Limbs=some (limbs (gW x).natAbs):=by
 have:=h.ll
 rw [pF];exact GX h.dl (by omega) (by omega)
theorem BH {N n:Nat} {s:Bool} (hn:nl n≤900000) (hN:2 ^ 64≤N):kD N s (limbs n)=some (I (bif s then -(n:Int) else n)):=by
 rw [TM (by rw [mP];unfold lim;omega) (by rw [mP];omega),VW]
theorem VY {x:ig}:(if (gW x).natAbs=0 then (0:Int) else if x.Neg then -1 else 1)=(gW x).sign:=by
 rw [pF]
 unfold gW
 split
 ·rename_i h;rw [h];cases x.Neg <;> simp
 ·rename_i h
  cases x.Neg with
  | true=>simp only [if_true];rw [Int.sign_neg,Int.sign_eq_one_of_pos (by omega)]
  | false=>simp only [Bool.false_eq_true,if_false];rw [Int.sign_eq_one_of_pos (by omega)]
theorem PY {N k l:Nat} {a b:ig} (ha:Io k a) (hb:Io l b) (hk:k≤400000) (hl:l≤400000) (hb0:gW b≠0) (hN:2 ^ 64≤N):ru N a b=some (R ((gW a:Rat) / (gW b:Rat))):=by
 unfold ru
 have h1:=ha.nl
 have h2:=hb.nl
 have hm0:(gW b).natAbs≠0:=by omega
 have hg0:Nat.gcd (gW a).natAbs (gW b).natAbs≠0:=fun e=>hm0 (Nat.eq_zero_of_gcd_eq_zero_right e)
 have hgl:nl (Nat.gcd (gW a).natAbs (gW b).natAbs)≤nl (gW b).natAbs:=uG (Nat.gcd_le_right _ (by omega))
 have hda:nl ((gW a).natAbs / Nat.gcd (gW a).natAbs (gW b).natAbs)≤nl (gW a).natAbs:=uG (Nat.div_le_self _ _)
 have hdb:nl ((gW b).natAbs / Nat.gcd (gW a).natAbs (gW b).natAbs)≤nl (gW b).natAbs:=uG (Nat.div_le_self _ _)
 -- what it is
 have hR:R ((gW a:Rat) / (gW b:Rat))=⟨I (bif (!(a.Neg == b.Neg)) then -(((gW a).natAbs / Nat.gcd (gW a).natAbs (gW b).natAbs:Nat):Int) else (((gW a).natAbs / Nat.gcd (gW a).natAbs (gW b).natAbs:Nat):Int)),I (((gW b).natAbs / Nat.gcd (gW a).natAbs (gW b).natAbs:Nat):Int)⟩:=by
  unfold R
  rw [← Rat.divInt_eq_div,Rat.num_divInt,Rat.den_divInt,if_neg hb0]
  have hgc:Int.gcd (gW b) (gW a)=Nat.gcd (gW a).natAbs (gW b).natAbs:=by rw [Int.gcd_eq_natAbs_gcd_natAbs,Nat.gcd_comm]
  rw [hgc]
  have hdvd:((Nat.gcd (gW a).natAbs (gW b).natAbs:Nat):Int) ∣ ((gW a).natAbs:Int):=Int.natCast_dvd_natCast.2 (Nat.gcd_dvd_left _ _)
  congr 2
  rw [pF] at *
  rw [pF] at *
  generalize Nat.gcd (val a.Limbs) (val b.Limbs)=g at *
  rw [Int.natCast_ediv]
  have hbp:0<val b.Limbs:=by omega
  unfold gW
  cases a.Neg <;> cases b.Neg <;> simp only [if_true,Bool.false_eq_true,if_false,Int.sign_neg,Int.sign_eq_one_of_pos (show (0:Int)<(val b.Limbs:Int) by omega),Int.one_mul,Int.neg_mul,Int.neg_neg,Int.mul_neg] <;> simp [Int.neg_ediv_of_dvd hdvd]
 rw [P8 ha (by omega) hN,bS,P8 hb (by omega) hN,bS,QY (by omega) (by omega) hN,bS,hR]
 simp only [mP,lV]
 by_cases hg1:Nat.gcd (gW a).natAbs (gW b).natAbs=1
 ·rw [hg1]
  have hl1:limbs 1=[1]:=by rw [nV (by decide)];simp [jB]
  have hn1:nl 1=1:=by unfold nl;rw [hl1];rfl
  rw [hn1,hl1]
  simp only [Int.natCast_one,decide_true,Bool.not_true,Bool.not_false,iP]
  rw [show idx [(1:Int)] 0=some 1 from rfl,bS]
  simp only [decide_true,Bool.not_true,Bool.or_false,iT,Nat.div_one]
  rw [BH (by omega) hN,bS,BH (by omega) hN,bS]
  rfl
 ·have hcond:∃ z:Int,((bif (!(!decide (((nl (Nat.gcd (gW a).natAbs (gW b).natAbs):Nat):Int)=1))) then (idx (limbs (Nat.gcd (gW a).natAbs (gW b).natAbs)) 0) else some 0)=some z)∧((!decide (((nl (Nat.gcd (gW a).natAbs (gW b).natAbs):Nat):Int)=1))||(!decide (z=1)))=true:=by
   by_cases h1l:nl (Nat.gcd (gW a).natAbs (gW b).natAbs)=1
   ·have hlt:=Aq (Nat.gcd (gW a).natAbs (gW b).natAbs)
    rw [h1l] at hlt
    rw [h1l,BG hg0 (by omega)]
    refine ⟨_,rfl,?_⟩
    have:((Nat.gcd (gW a).natAbs (gW b).natAbs:Nat):Int)≠1:=by omega
    simp [this]
   ·refine ⟨0,?_,?_⟩
    ·rw [dF (by omega)];rfl
    ·rw [dF (by omega)];rfl
  obtain ⟨z,hz1,hz2⟩:=hcond
  rw [hz1,bS,hz2,iP,IB hg0 (by omega) (by omega) hN,bS,IB hg0 (by omega) (by omega) hN,bS]
  rw [BH (by omega) hN,bS,BH (by omega) hN,bS]
  rfl
theorem Qf.ion {k:Nat} {x:jq} {q:Rat} (h:Qf k x q):Io (k / 16+1) x.Num:=⟨h.dn,h.ln⟩
theorem Qf.iod {k:Nat} {x:jq} {q:Rat} (h:Qf k x q):Io (k / 16+1) x.Ol:=⟨h.dd,h.ld⟩
def VO (q:Rat):Int:=if q<0 then -1 else if q=0 then 0 else 1
def XB (p q:Rat):Int:=VO (p - q)
theorem VZ (q:Rat):q.num.sign=VO q:=by
 unfold VO
 have h1:=Rat.num_nonneg (q:=q)
 have h2:=Rat.num_eq_zero (q:=q)
 split
 ·rename_i h
  have h3:¬ 0≤q:=by rw [Rat.not_le];exact h
  have:q.num<0:=by rw [← h1] at h3;omega
  exact Int.sign_eq_neg_one_of_neg this
 ·rename_i h
  rw [Rat.not_lt] at h
  have h3:=h1.2 h
  split
  ·rename_i h0;rw [h0];rfl
  ·rename_i h0
   have:q.num≠0:=fun e=>h0 (h2.1 e)
   exact Int.sign_eq_one_of_pos (by omega)
theorem Of_I {N:Nat} {z:Int} (h0:-9223372036854775808≤z) (h1:z≤9223372036854775807) (hN:2 ^ 64≤N):xP N z=some (I z):=by
  unfold xP
  have hl:nl z.natAbs≤4:=DZ (by omega)
  rw [aW]
  by_cases hz:z<0
  · have e:IntKind.u64.wrap (0 - IntKind.u64.wrap z)=((z.natAbs:Nat):Int):=by
      rw [IntKind.wrap_u64,IntKind.wrap_u64];omega
    rw [dT hz,iP,e,FD (by omega) (by omega),bS,BH (by omega) hN,bS]
    congr 2;simp;omega
  · have e : IntKind.u64.wrap z = ((z.natAbs : Nat) : Int) := by rw [IntKind.wrap_u64]; omega
    rw [dF hz,iT,e,FD (by omega) (by omega),bS,BH (by omega) hN,bS]
    congr 2;simp;omega
theorem VL {z:Int} (h0:-9223372036854775808≤z) (h1:z≤9223372036854775807):Io 4 (I z):=Io.I (DZ (by omega))
theorem Sz.i64 {z:Int} (h0:-9223372036854775808≤z) (h1:z≤9223372036854775807):Sz 64 (z:Rat):=Sz.int (by omega)
end Go.KB
