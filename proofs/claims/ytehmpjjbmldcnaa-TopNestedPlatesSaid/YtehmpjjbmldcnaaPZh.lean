/- Plain laws of the reference's long arithmetic: natural numbers. Plain laws of the reference's long arithmetic: quotients, integers, fractions. No condition. -/
import Derived.Test.YtehmpjjbmldcnaaPZc
namespace Go.KB
set_option linter.unusedVariables false
theorem V3 {a g:Nat} (h:a<9223372036854775808) (h0:g≠0):Fj .i64 (a:Int) (g:Int)=some ((a / g:Nat):Int):=by
 unfold Fj
 have:=Nat.div_le_self a g
 rw [if_neg (by omega),← Int.ofNat_tdiv,Zo (by omega)]
theorem TT {l:List Int} {n:Nat} (hd:sD l) (hn:n≤l.length) (h:n=0∨fP l (n - 1)≠0):Norm (l.take n):=by
 refine ⟨uj hd n,fun hne=>?_⟩
 have hlen:(l.take n).length=n:=by rw [List.length_take];omega
 have h0:n≠0:=fun e=>by subst e;simp at hne
 rw [List.getLast_eq_getElem]
 have h1:fP l (n - 1)≠0:=h.resolve_left h0
 have h2:(l.take n)[(l.take n).length - 1]'(by omega)=l[n - 1]'(by omega):=by rw [List.getElem_take];congr 1;omega
 rw [h2]
 rw [Ap (by omega)] at h1
 omega
theorem BI {N:Nat} {l:List Int} (hd:sD l) (hl:l.length≤2000000) (hN:2 ^ 64≤N):mG N l=some (limbs (val l)):=by
  unfold mG
  obtain ⟨o,ho,n,hn,rfl,hv,hz⟩:=jb (f:=tH N l) (fun s=>∃ n:Nat,n≤l.length∧s=(n:Int)∧val (l.take n)=val l) (fun s=>s.toNat) (fun o=>∃ n:Nat,n≤l.length∧o=(n:Int)∧val (l.take n)=val l∧(n=0∨fP l (n - 1)≠0)) (by
    rintro s ⟨n,hn,rfl,hv⟩
    unfold tH
    cases n with
    | zero =>
      refine .inr ⟨0,?_,0,by omega,rfl,hv,.inl rfl⟩
      rfl
    | succ n =>
      have e1:IntKind.i64.wrap (((n+1:Nat):Int) - 1)=((n:Nat):Int):=by rw [jd (by omega) (by omega)];omega
      rw [fE,dT (by omega),iP,e1,ny hd (by omega),bS,Bool.true_and,lK]
      by_cases h0:fP l n=0
      · rw [dT (by omega), iP]
        refine .inl ⟨_,rfl,⟨n,by omega,rfl,?_⟩,by omega⟩
        rw [dQ,h0] at hv;simpa using hv
      · rw [dF (by omega), iT]
        exact .inr ⟨_,rfl,n+1,hn,rfl,hv,.inr h0⟩) N _ ⟨l.length,Nat.le_refl _,rfl,by rw [List.take_length]⟩ (by omega)
  rw [ho,bS,GU hn,bS,qo (by simp;unfold lim;omega),bS,List.nil_append,← hv,MV (TT hd hn hz)]
theorem Ej {N i:Nat} {l:List Int} (hd:sD l):pM N l (i:Int)=some ((fP l i:Nat):Int):=by
 unfold pM
 by_cases h:i<l.length
 ·rw [aW,dT (by omega),iP,ny hd h];rfl
 ·rw [aW,dF (by omega),iT,zl (by omega)];rfl
theorem V4 {N:Nat} {l:List Int} (hd:sD l) (hl:l.length≤1000000) (hN:2 ^ 64≤N):kQ N l=some (limbs (val l)):=by
 unfold kQ
 have:=xY (f:=qE N l) l.length (fun i=>l.take i) l (by
  intro i hi
  unfold qE
  have hg:=lW hd i
  simp (disch:=omega) only [aW,dT,iP,ny hd,bS,jd]
  rw [qo (by simp;unfold lim;omega),bS,List.take_succ_eq_append_getElem hi,CQ hd hi]
  rfl) (by
  unfold qE
  simp (disch:=omega) only [aW,dF,iT,List.take_length]) N (by omega)
 rw [List.take_zero] at this
 rw [this,bS,BI hd (by omega) hN];rfl
theorem V6 {N m n:Nat} (hm:nl m≤900000) (hn:nl n≤900000) (hN:2 ^ 64≤N):wW N (limbs m) (limbs n)=some (limbs (m+n)):=by
  have ha:=gm m
  have hb:=gm n
  have hal:(limbs m).length≤900000:=hm
  have hbl:(limbs n).length≤900000:=hn
  have hvm:=iO m
  have hvn:=iO n
  generalize limbs m=a at *
  generalize limbs n=b at *
  unfold wW
  obtain ⟨o, ho, hd, hlen, hv⟩ := jb (f := tN N a b) (fun s => ∃ i c : Nat, i ≤ 900001 ∧ c < 2 ∧ s.2 = ((c : Int), (i : Int)) ∧ sD s.1 ∧ s.1.length = i ∧ val s.1 + 65536 ^ i * c = val (a.take i) + val (b.take i) ∧ (i = 900001 → c = 0)) (fun s => 900002 - s.2.2.toNat)
    (fun o=>sD o∧o.length≤900001∧val o=val a+val b) (by
    rintro ⟨acc,cc,ii⟩ ⟨i,c,hi,hc,hs,hd,hlen,hv,hz⟩
    simp only [Prod.mk.injEq] at hs hd hlen hv;obtain ⟨rfl,rfl⟩:=hs
    unfold tN
    simp only [aW,fE]
    by_cases hgo:i<a.length∨i<b.length∨0<c
    · have hx:=lW ha i
      have hy:=lW hb i
      have hcond:((decide ((i:Int)<(a.length:Int))||decide ((i:Int)<(b.length:Int)))||decide ((0:Int)<(c:Int)))=true:=by
        simp only [Bool.or_eq_true,decide_eq_true_eq];omega
      have hile:i≤900000:=by omega
      rw [hcond,iP,Ej ha,bS,Ej hb,bS]
      have e1:IntKind.i64.wrap (IntKind.i64.wrap (((fP a i:Nat):Int)+((fP b i:Nat):Int))+(c:Int))=((fP a i+fP b i+c:Nat):Int):=by
        rw [jd (n:=((fP a i:Nat):Int)+((fP b i:Nat):Int)) (by omega) (by omega),jd (by omega) (by omega)];omega
      rw [e1,show (65536:Int)=((65536:Nat):Int) from rfl,TN (by decide),bS,qo (by simp;unfold lim;omega),bS,V3 (by omega) (by decide),bS,lY (by omega)]
      refine .inl ⟨_,rfl,⟨i+1,(fP a i+fP b i+c) / 65536,by omega,by omega,rfl,Eh hd (Jz (by omega) (by omega)),by simp [hlen],?_,?_⟩,by simp;omega⟩
      · rw [Lc,dQ,dQ,hlen,Int.toNat_natCast,Nat.pow_succ]
        have h2:=Nat.mod_add_div (fP a i+fP b i+c) 65536
        generalize (fP a i+fP b i+c) % 65536=mm at *
        generalize (fP a i+fP b i+c) / 65536=dd at *
        generalize 65536 ^ i=P at *
        have h3:P * (mm+65536 * dd)=P * (fP a i+fP b i+c):=by rw [h2]
        clear e1 hcond
        grind
      · intro h
        rw [zl (l:=a) (by omega),zl (l:=b) (by omega)];omega
    · have hcond:((decide ((i:Int)<(a.length:Int))||decide ((i:Int)<(b.length:Int)))||decide ((0:Int)<(c:Int)))=false:=by
        simp only [Bool.or_eq_false_iff,decide_eq_false_iff_not];omega
      rw [hcond,iT]
      refine .inr ⟨_,rfl,hd,by omega,?_⟩
      rw [List.take_of_length_le (by omega),List.take_of_length_le (by omega),show c=0 by omega] at hv
      simpa using hv) N ([],0,0) ⟨0,0,by omega,by omega,rfl,RV,rfl,by simp [val],by omega⟩ (by simp only [];omega)
  rw [ho,bS,BI hd (by omega) hN,hv,hvm,hvn];rfl
theorem IG {N m n:Nat} (hle:n≤m) (hm:nl m≤900000) (hN:2 ^ 64≤N):qW N (limbs m) (limbs n)=some (limbs (m - n)):=by
  have ha:=gm m
  have hb:=gm n
  have hbl:(limbs n).length≤(limbs m).length:=uG hle
  have hal:(limbs m).length≤900000:=hm
  have hvm:=iO m
  have hvn:=iO n
  generalize limbs m=a at *
  generalize limbs n=b at *
  unfold qW
  obtain ⟨o, ho, hd, hlen, hv⟩ := jb (f := rF N a b) (fun s => ∃ i c : Nat, i ≤ a.length ∧ c < 2 ∧ s.2 = ((c : Int), (i : Int)) ∧ sD s.1 ∧ s.1.length = i ∧ val s.1 + val (b.take i) = val (a.take i) + 65536 ^ i * c) (fun s => a.length - s.2.2.toNat)
    (fun o=>sD o∧o.length=a.length∧∃ c:Nat,c<2∧val o+val b=val a+65536 ^ a.length * c) (by
    rintro ⟨acc,cc,ii⟩ ⟨i,c,hi,hc,hs,hd,hlen,hv⟩
    simp only [Prod.mk.injEq] at hs hd hlen hv;obtain ⟨rfl,rfl⟩:=hs
    unfold rF
    simp only [aW]
    by_cases hlt:i<a.length
    · have hx:=lW ha i
      have hy:=lW hb i
      have e1:IntKind.i64.wrap (IntKind.i64.wrap (((fP a i:Nat):Int) - ((fP b i:Nat):Int)) - (c:Int))=(((fP a i:Nat):Int) - ((fP b i:Nat):Int) - (c:Int)):=by
        rw [jd (n:=((fP a i:Nat):Int) - ((fP b i:Nat):Int)) (by omega) (by omega),jd (by omega) (by omega)]
      rw [dT (by omega),iP,ny ha hlt,bS,Ej hb,bS,e1]
      by_cases hneg:fP a i<fP b i+c
      · rw [dT (by omega), iP, jd (n := ((fP a i : Nat) : Int) - ((fP b i : Nat) : Int) - (c : Int) + 65536) (by omega) (by omega), qo (by simp; unfold lim; omega), bS, lY (by omega)]
        refine .inl ⟨_,rfl,⟨i+1,1,by omega,by omega,rfl,Eh hd (Jz (by omega) (by omega)),by simp [hlen],?_⟩,by simp;omega⟩
        rw [Lc,dQ,dQ,hlen,Nat.pow_succ]
        have e2:(((fP a i:Nat):Int) - ((fP b i:Nat):Int) - (c:Int)+65536).toNat+fP b i+c=fP a i+65536:=by omega
        generalize (((fP a i:Nat):Int) - ((fP b i:Nat):Int) - (c:Int)+65536).toNat=z at *
        generalize 65536 ^ i=P at *
        have h3:P * (z+fP b i+c)=P * (fP a i+65536):=by rw [e2]
        clear e1
        grind
      · rw [dF (by omega), iT, qo (by simp; unfold lim; omega), bS, lY (by omega)]
        refine .inl ⟨_,rfl,⟨i+1,0,by omega,by omega,rfl,Eh hd (Jz (by omega) (by omega)),by simp [hlen],?_⟩,by simp;omega⟩
        rw [Lc,dQ,dQ,hlen,Nat.pow_succ]
        have e2:(((fP a i:Nat):Int) - ((fP b i:Nat):Int) - (c:Int)).toNat+fP b i+c=fP a i:=by omega
        generalize (((fP a i:Nat):Int) - ((fP b i:Nat):Int) - (c:Int)).toNat=z at *
        generalize 65536 ^ i=P at *
        have h3:P * (z+fP b i+c)=P * (fP a i):=by rw [e2]
        clear e1
        grind
    · obtain rfl : i = a.length := by omega
      rw [dF (by omega),iT]
      refine .inr ⟨_,rfl,hd,hlen,c,hc,?_⟩
      rw [List.take_of_length_le hbl,List.take_length] at hv;exact hv) N ([],0,0) ⟨0,0,by omega,by omega,rfl,RV,rfl,by simp [val]⟩ (by simp only [];omega)
  obtain ⟨c,hc,hv⟩:=hv
  have h1:=tu hd
  rw [hlen] at h1
  have hc0:c=0:=by
    rcases Nat.lt_or_ge c 1 with h | h
    · omega
    · obtain rfl : c = 1 := by omega
      omega
  subst hc0
  rw [ho,bS,BI hd (by omega) hN,show val o=m - n by omega];rfl
theorem Oh {N i x:Nat} {a b LQ:List Int} (ha:sD a) (hia:i<a.length) (hxa:fP a i=x) (hb:sD b) (ho:sD LQ) (hlen:i+b.length<LQ.length) (hl:LQ.length≤2000000) (hz:fP LQ (i+b.length)=0) (hN:2 ^ 64≤N) :
    ∃ o,aX (rE N a b (LQ,(i:Int))) N (LQ,0,0)=some o∧sD o∧o.length=LQ.length∧val o=val LQ+65536 ^ i * (x * val b):=by
  have hx:=lW ha i
  rw [hxa] at hx
  refine jb (fun s=>∃ k c:Nat,k≤b.length+1∧c<65536∧s.2=((c:Int),(k:Int))∧sD s.1∧s.1.length=LQ.length∧(k≤b.length→fP s.1 (i+b.length)=0)∧(k=b.length+1→c=0)∧val s.1+65536 ^ (i+k) * c=val LQ+65536 ^ i * (x * val (b.take k))) (fun s=>b.length+1 - s.2.2.toNat) _ ?_ N _ ⟨0,0,by omega,by omega,rfl,ho,rfl,fun _=>hz,by omega,by simp [val]⟩ (by simp only [];omega)
  rintro ⟨out,cc,kk⟩ ⟨k,c,hk,hc,hs,hd,hlo,hz',hc0,hv⟩
  simp only [Prod.mk.injEq] at hs hd hlo hz' hv;obtain ⟨rfl,rfl⟩:=hs
  unfold rE
  simp only [aW,fE]
  by_cases hgo:k<b.length∨0<c
  · have hcond : (decide ((k : Int) < (b.length : Int)) || decide ((0 : Int) < (c : Int))) = true := by simp only [Bool.or_eq_true, decide_eq_true_eq]; omega
    have hkb:k≤b.length:=by omega
    have hy:=lW hb k
    have hu:=lW hd (i+k)
    have hxy:=CS hx hy
    have hik:IntKind.i64.wrap ((i:Int)+(k:Int))=((i+k:Nat):Int):=by rw [jd (by omega) (by omega)];omega
    have e1:IntKind.i64.wrap (IntKind.i64.wrap (((fP out (i+k):Nat):Int)+IntKind.i64.wrap (((fP a i:Nat):Int) * ((fP b k:Nat):Int)))+(c:Int))=((fP out (i+k)+x * fP b k+c:Nat):Int):=by
      rw [hxa,← Int.natCast_mul,jd (n:=((x * fP b k:Nat):Int)) (by omega) (by omega),jd (n:=((fP out (i+k):Nat):Int)+((x * fP b k:Nat):Int)) (by omega) (by omega),jd (by omega) (by omega)];omega
    rw [hcond,iP,hik,ny hd (by omega),bS,ny ha hia,bS,Ej hb,bS,e1,show (65536:Int)=((65536:Nat):Int) from rfl,TN (by decide),bS,bS,V3 (by omega) (by decide),bS,lY (by omega),Int.toNat_natCast]
    refine .inl ⟨_,rfl,⟨k+1,(fP out (i+k)+x * fP b k+c) / 65536,by omega,by omega,rfl,zn hd (by omega) (by omega),by simp [hlo],?_,?_,?_⟩,by simp only [];omega⟩
    · intro h;rw [La (by omega)];exact hz' (by omega)
    · intro h
      obtain rfl:k=b.length:=by omega
      rw [hz' (Nat.le_refl _),zl (l:=b) (Nat.le_refl _)];omega
    · have h1 := XA (d := (((fP out (i + k) + x * fP b k + c) % 65536 : Nat) : Int)) (show i + k < out.length by omega)
      rw [Int.toNat_natCast] at h1
      rw [dQ]
      have h2:=Nat.mod_add_div (fP out (i+k)+x * fP b k+c) 65536
      rw [show i+(k+1)=i+k+1 by omega,Nat.pow_succ]
      have hP:65536 ^ (i+k)=65536 ^ i * 65536 ^ k:=Nat.pow_add _ _ _
      generalize val (out.set (i+k) (((fP out (i+k)+x * fP b k+c) % 65536:Nat):Int))=V at *
      generalize (fP out (i+k)+x * fP b k+c) % 65536=m at *
      generalize (fP out (i+k)+x * fP b k+c) / 65536=q at *
      generalize 65536 ^ (i+k)=P at *
      generalize fP out (i+k)=u at *
      generalize fP b k=y at *
      generalize 65536 ^ k=Q at *
      generalize 65536 ^ i=RR at *
      have h3:P * (m+65536 * q)=P * (u+x * y+c):=by rw [h2]
      subst hP
      clear e1 hcond hik
      grind
  · have hcond : (decide ((k : Int) < (b.length : Int)) || decide ((0 : Int) < (c : Int))) = false := by simp only [Bool.or_eq_false_iff, decide_eq_false_iff_not]; omega
    rw [hcond,iT]
    refine .inr ⟨_,rfl,hd,hlo,?_⟩
    rw [List.take_of_length_le (by omega),show c=0 by omega] at hv
    simpa using hv
theorem II {N m n:Nat} (hm:nl m≤900000) (hn:nl n≤900000) (hN:2 ^ 64≤N):qV N (limbs m) (limbs n)=some (limbs (m * n)):=by
  have ha:=gm m
  have hb:=gm n
  have hal:(limbs m).length≤900000:=hm
  have hbl:(limbs n).length≤900000:=hn
  have hvm:=iO m
  have hvn:=iO n
  generalize limbs m=a at *
  generalize limbs n=b at *
  unfold qV
  rw [jd (n:=(a.length:Int)+(b.length:Int)) (by omega) (by omega),jd (by omega) (by omega),Ld (by omega) (by omega),bS,show ((a.length:Int)+(b.length:Int)+1).toNat=a.length+b.length+1 by omega]
  obtain ⟨o, ho, hd, hlen, hv⟩ := jb (f := rD N a b) (fun s => ∃ i : Nat, i ≤ a.length ∧ s.2 = (i : Int) ∧ sD s.1 ∧ s.1.length = a.length + b.length + 1 ∧ val s.1 = val (a.take i) * val b) (fun s => a.length - s.2.toNat)
    (fun o=>sD o∧o.length=a.length+b.length+1∧val o=val a * val b) (by
    rintro ⟨out,ii⟩ ⟨i,hi,hs,hd,hlen,hv⟩
    simp only at hs hd hlen hv;subst hs
    unfold rD
    simp only [aW]
    by_cases hlt:i<a.length
    · have hbd:val (a.take i) * val b<65536 ^ (i+b.length):=by
        have h1:=tu (uj ha i)
        have h2:65536 ^ (a.take i).length≤65536 ^ i:=Nat.pow_le_pow_right (by decide) (by rw [List.length_take];omega)
        rw [Nat.pow_add]
        exact Nat.mul_lt_mul'' (by omega) (tu hb)
      obtain ⟨o,ho,hd',hlen',hv'⟩:=Oh (N:=N) (i:=i) ha hlt rfl hb hd (by omega) (by omega) (VP (by rw [hv];exact hbd)) hN
      rw [dT (by omega),iP,ho,bS,lY (by omega)]
      refine .inl ⟨_,rfl,⟨i+1,by omega,rfl,hd',hlen'.trans hlen,?_⟩,by simp;omega⟩
      rw [hv',hv,dQ];grind
    · obtain rfl : i = a.length := by omega
      rw [dF (by omega),iT]
      refine .inr ⟨_,rfl,hd,hlen,?_⟩
      rw [List.take_length] at hv;exact hv) N (List.replicate (a.length+b.length+1) 0,0) ⟨0,by omega,rfl,G5 _,by simp,by simp [val,Xz]⟩ (by simp only [];omega)
  rw [ho,bS,BI hd (by omega) hN,hv,hvm,hvn];rfl
theorem I7 {N a b:Nat} (ha:nl a≤1000000) (hb:nl b≤1000000) (hN:2 ^ 64≤N):∃ c,qG N (limbs a) (limbs b)=some c∧(c<0↔a<b)∧(c=0↔a=b):=by
  have hda:=gm a
  have hdb:=gm b
  unfold qG
  simp only [mP,lV]
  by_cases hlen:nl a=nl b
  · rw [hlen,dT rfl,Bool.not_true,iT]
    obtain ⟨o, ho, hp⟩ := jb (f := qg N (limbs a) (limbs b)) (fun s => ∃ k : Nat, k ≤ nl b ∧ s = (k : Int) - 1 ∧ (limbs a).drop k = (limbs b).drop k) (fun s => (s + 1).toNat)
      (fun o=>match o with | .inl _=>a=b | .inr c=>(c<0↔a<b)∧(c=0↔a=b)) (by
      rintro s ⟨k,hk,rfl,he⟩
      unfold qg
      simp only [jD,lV]
      cases k with
      | zero =>
        rw [dF (by omega),iT]
        refine .inr ⟨_,rfl,?_⟩
        have:limbs a=limbs b:=by simpa using he
        show a=b
        rw [← iO a,← iO b,this]
      | succ k =>
        have hxa:=lW hda k
        have hxb:=lW hdb k
        have hka:k<(limbs a).length:=by rw [mP];omega
        have hkb:k<(limbs b).length:=by rw [mP];omega
        rw [show ((k+1:Nat):Int) - 1=(k:Int) by omega,dT (by omega),iP,ny hda hka,bS,ny hdb hkb,bS]
        by_cases hne:fP (limbs a) k=fP (limbs b) k
        · rw [dT (by omega), Bool.not_true, iT, jd (by omega) (by omega)]
          refine .inl ⟨_,rfl,⟨k,by omega,rfl,?_⟩,by omega⟩
          rw [List.drop_eq_getElem_cons hka,List.drop_eq_getElem_cons hkb,he,CQ hda hka,CQ hdb hkb,hne]
        · rw [dF (by omega), Bool.not_false, iP, bS, bS, jd (by omega) (by omega)]
          refine .inr ⟨_,rfl,?_⟩
          have key:∀ {x y:Nat},(hx:k<(limbs x).length)→(hy:k<(limbs y).length)→(limbs x).drop (k+1)=(limbs y).drop (k+1)→fP (limbs x) k<fP (limbs y) k→x<y:=by
            intro x y hx hy hdr hlt
            have:=IA (gm x) (gm y) hx hy hdr (by rw [CQ (gm x) hx,CQ (gm y) hy];omega)
            rwa [iO,iO] at this
          rcases Nat.lt_or_gt_of_ne hne with h | h
          · have:=key hka hkb he h
            exact ⟨⟨fun _=>this,fun _=>by omega⟩,⟨fun _=>by omega,fun _=>by omega⟩⟩
          · have:=key hkb hka he.symm h
            exact ⟨⟨fun _=>by omega,fun _=>by omega⟩,⟨fun _=>by omega,fun _=>by omega⟩⟩) N (IntKind.i64.wrap (((nl b:Nat):Int) - 1)) ⟨nl b,Nat.le_refl _,by rw [jd (by omega) (by omega)],by rw [List.drop_of_length_le (by rw [mP];omega),List.drop_of_length_le (by rw [mP];omega)]⟩ (by rw [jd (by omega) (by omega)];omega)
    rw [ho,bS]
    cases o with
    | inl u=>exact ⟨0,rfl,⟨fun h=>by omega,fun h=>by have:a=b:=hp;omega⟩,⟨fun _=>hp,fun _=>rfl⟩⟩
    | inr c=>exact ⟨c,rfl,hp⟩
  · rw [dF (by omega), Bool.not_false, iP, jd (by omega) (by omega)]
    refine ⟨_,rfl,?_⟩
    have k1:nl a<nl b→a<b:=fun h=>zk h
    have k2:nl b<nl a→b<a:=fun h=>zk h
    have k3:a=b→nl a=nl b:=fun h=>by rw [h]
    constructor <;> constructor <;> intro h <;> omega
end Go.KB
namespace Go.KB
set_option linter.unusedVariables false
theorem Sj {m:Nat} (h:m<65536):nl m≤1:=DZ (by simpa using h)
theorem XE {N n r:Nat} (hn0:n≠0) (hn:nl n≤800000) (hr:nl r≤900000) (hd:r / n<65536) (hN:2 ^ 64≤N) :
    aX (tK N (limbs n) (limbs r)) N (0,65535)=some ((r / n:Nat):Int):=by
  have hpos:0<n:=Nat.pos_of_ne_zero hn0
  refine vZ (fun s=>∃ lo hi:Nat,s=((lo:Int),(hi:Int))∧lo≤r / n∧r / n≤hi∧hi<65536) (fun s=>(s.2 - s.1).toNat) _ ?_ N _ ⟨0,65535,rfl,Nat.zero_le _,Nat.le_of_lt_succ hd,by omega⟩ (by simp only [];omega)
  rintro s ⟨lo,hi,rfl,h1,h2,h3⟩
  unfold tK
  simp only [aW,nZ]
  by_cases hlt:lo<hi
  · have e1 : IntKind.i64.wrap (IntKind.i64.wrap ((lo : Int) + (hi : Int)) + 1) = ((lo + hi + 1 : Nat) : Int) := by rw [jd (n := (lo : Int) + (hi : Int)) (by omega) (by omega), jd (by omega) (by omega)]; omega
    generalize hm:(lo+hi+1) / 2=m
    have hm0:m≠0:=by omega
    have hml:=FH n m
    have hm1:=Sj (show m<65536 by omega)
    obtain ⟨c,hc,P7,ZN⟩:=I7 (N:=N) (a:=n * m) (b:=r) (by omega) (by omega) hN
    rw [dT (by omega),iP,e1,show (2:Int)=((2:Nat):Int) from rfl,V3 (by omega) (by decide),hm,bS,← BG hm0 (by omega),II (by omega) (by omega) hN,bS,hc,bS]
    by_cases hle:n * m≤r
    · rw [dT (by rcases Nat.lt_or_ge (n * m) r with h | h; exact Int.le_of_lt (P7.2 h); exact Int.le_of_eq (ZN.2 (by omega))), iP]
      exact .inl ⟨_,rfl,⟨m,hi,rfl,by rw [Nat.le_div_iff_mul_le hpos,Nat.mul_comm];exact hle,h2,h3⟩,by simp only [];omega⟩
    · rw [dF (by have g1 : ¬ c < 0 := fun h => by have := P7.1 h; omega
                 have g2:¬ c=0:=fun h=>by have:=ZN.1 h;omega
                 omega),iT,jd (by omega) (by omega)]
      refine .inl ⟨_,rfl,⟨lo,m - 1,by rw [show (m:Int) - 1=((m - 1:Nat):Int) by omega],h1,?_,by omega⟩,by simp only [];omega⟩
      have:r / n<m:=by rw [Nat.div_lt_iff_lt_mul hpos,Nat.mul_comm];omega
      omega
  · rw [dF (by omega), iT]
    refine .inr ?_
    congr 3;omega
theorem Lj {N m n:Nat} (hn0:n≠0) (hm:nl m≤800000) (hn:nl n≤700000) (hN:2 ^ 64≤N):sK N (limbs m) (limbs n)=some (limbs (m / n),limbs (m % n)):=by
  have hpos:0<n:=Nat.pos_of_ne_zero hn0
  have ha:=gm m
  have hal:(limbs m).length≤800000:=hm
  have hvm:=iO m
  generalize limbs m=a at *
  unfold sK
  rw [Ld (by omega) (by omega),bS,Int.toNat_natCast]
  obtain ⟨o, ho, h1, PW, Wn, XC⟩ := jb (f := tJ N a (limbs n)) (fun s => ∃ k : Nat, k ≤ a.length ∧ s.2.2 = (k : Int) - 1 ∧ s.1 = limbs (val (a.drop k) % n) ∧ sD s.2.1 ∧ s.2.1.length = a.length ∧ val (s.2.1.drop k) = val (a.drop k) / n) (fun s => (s.2.2 + 1).toNat)
    (fun o=>o.1=limbs (val a % n)∧sD o.2∧o.2.length=a.length∧val o.2=val a / n) (by
    rintro ⟨rest,q,kk⟩ ⟨k,hk,hs,hr,PW,Wn,XC⟩
    simp only at hs hr PW Wn XC;subst hs;subst hr
    unfold tJ
    simp only [jD,fE]
    cases k with
    | zero =>
      rw [dF (by omega),iT]
      exact .inr ⟨_,rfl,by simp,PW,Wn,by simpa using XC⟩
    | succ k =>
      have hx:=lW ha k
      have hR:val (a.drop (k+1)) % n<n:=Nat.mod_lt _ hpos
      have hRl:nl (val (a.drop (k+1)) % n)≤nl n:=uG (Nat.le_of_lt hR)
      obtain ⟨sm,sd⟩:=I5 (a:=fP a k) hpos (rfl:val (a.drop (k+1)) % n=_)
      rw [← yL] at sm sd
      generalize hX:fP a k+65536 * (val (a.drop (k+1)) % n)=X at *
      have hXn:X / n<65536:=by
        rw [Nat.div_lt_iff_lt_mul hpos]
        have:=Nat.mul_le_mul_left 65536 (show val (a.drop (k+1)) % n+1≤n from hR)
        omega
      have hXl:nl X≤700001:=by
        rw [← hX]
        have g1:=FH 65536 (val (a.drop (k+1)) % n)
        refine Nat.le_trans (DZ (k:=nl n+1) ?_) (by omega)
        rw [Nat.pow_succ]
        have g2:=Nat.lt_trans hR (Aq n)
        have g3:=Nat.mul_le_mul_left 65536 (show val (a.drop (k+1)) % n+1≤65536 ^ nl n from g2)
        omega
      have htrim:mG N ([((fP a k:Nat):Int)] ++ limbs (val (a.drop (k+1)) % n))=some (limbs X):=by
        rw [BI (Eh (Jz (by omega) (by omega)) (gm _)) (by rw [List.length_append,mP];simp;omega) hN,val_append,iO]
        congr 2
      rw [show ((k+1:Nat):Int) - 1=(k:Int) by omega,dT (by omega),iP,ny ha (by omega),bS,qo (by rw [mP];simp;unfold lim;omega),bS,htrim,bS,XE hn0 (by omega) (by omega) hXn hN,bS,ny PW (by omega),bS,jd (n:=(k:Int) - 1) (by omega) (by omega),Int.toNat_natCast]
      have hfin:∃ k':Nat,k'≤a.length∧(limbs (X % n),q.set k ((X / n:Nat):Int),(k:Int) - 1).2.2=(k':Int) - 1∧(limbs (X % n),q.set k ((X / n:Nat):Int),(k:Int) - 1).1=limbs (val (a.drop k') % n)∧sD (limbs (X % n),q.set k ((X / n:Nat):Int),(k:Int) - 1).2.1∧(limbs (X % n),q.set k ((X / n:Nat):Int),(k:Int) - 1).2.1.length=a.length∧val ((limbs (X % n),q.set k ((X / n:Nat):Int),(k:Int) - 1).2.1.drop k')=val (a.drop k') / n :=
        ⟨k,by omega,rfl,by rw [sm],zn PW (Int.natCast_nonneg _) (Int.ofNat_lt.2 hXn),by simp [Wn],by
          simp only []
          rw [yL,pK (by omega),Int.toNat_natCast,zo (by omega),XC,sd]⟩
      by_cases hz:X / n=0
      · rw [dF (by rw [hz]; omega), iT]
        have hXX:X % n=X:=by have:=Nat.div_add_mod X n;rw [hz] at this;omega
        rw [hXX] at hfin
        exact .inl ⟨_,rfl,hfin,by simp only [];omega⟩
      · have hd1:=Sj hXn
        have hml:=FH n (X / n)
        have hle:n * (X / n)≤X:=Nat.mul_div_le X n
        have hmod:X - n * (X / n)=X % n:=by have:=Nat.div_add_mod X n;omega
        have hzp:0<X / n:=Nat.pos_of_ne_zero hz
        rw [dT (Int.natCast_pos.2 hzp),iP,← BG hz hXn,II (by omega) (by omega) hN,bS,IG hle (by omega) hN,bS,hmod]
        exact .inl ⟨_,rfl,hfin,by simp only [];omega⟩) N ([],List.replicate a.length 0,IntKind.i64.wrap ((a.length:Int) - 1)) ⟨a.length,Nat.le_refl _,by simp only [];rw [jd (by omega) (by omega)],by simp [val,jB],G5 _,by simp,by simp [val]⟩ (by simp only [];rw [jd (by omega) (by omega)];omega)
  rw [ho,bS,BI PW (by omega) hN,bS,XC,h1,hvm]
theorem XF {N a b:Nat} (ha:nl a≤700000) (hb:nl b≤700000) (hN:2 ^ 64≤N):yB N (limbs a) (limbs b)=some (limbs (Nat.gcd a b)):=by
 unfold yB
 rw [vZ (f:=uK N) (fun s=>∃ x y:Nat,s=(limbs x,limbs y)∧nl x≤700000∧nl y≤700000∧Nat.gcd x y=Nat.gcd a b) (fun s=>Oe (val s.1) (val s.2)) (limbs (Nat.gcd a b)) (by
  rintro s ⟨x,y,rfl,hx,hy,hg⟩
  unfold uK
  simp only [fE,mP]
  by_cases hy0:y=0
  ·subst hy0
   rw [Nat.gcd_zero_right] at hg
   subst hg
   refine .inr ?_
   rw [JA];rfl
  ·have hyp:=FI hy0
   have hml:nl (x % y)≤nl y:=uG (Nat.le_of_lt (Nat.mod_lt _ (Nat.pos_of_ne_zero hy0)))
   have hgn:Nat.gcd y (x % y)=Nat.gcd a b:=by rw [← hg,Nat.gcd_comm y,← Nat.gcd_rec,Nat.gcd_comm]
   rw [dT (by omega),iP,Lj hy0 (by omega) hy hN,bS]
   exact .inl ⟨_,rfl,⟨y,x % y,rfl,hy,by omega,hgn⟩,by simp only [iO];exact RZ hy0⟩) N _ ⟨a,b,rfl,ha,hb,rfl⟩ (by simp only [iO];have:=Si (show nl a≤900000 by omega) (show nl b≤900000 by omega);omega)]
 rfl
theorem xB {N n:Nat} {s:Bool} (hn:nl n≤1000000) (hN:2 ^ 64≤N):kR N s (limbs n)=some (I (bif s then -(n:Int) else n)):=by
 unfold kR
 have hd:=gm n
 have:=xY (f:=qF N (limbs n)) (limbs n).length (fun i=>(⟨s&&decide (n≠0),(limbs n).take i⟩:ig)) (⟨s&&decide (n≠0),limbs n⟩:ig) (by
  intro i hi
  unfold qF
  have hg:=lW hd i
  have hi':=hi
  rw [mP] at hi'
  simp only [aW,mP]
  rw [dT (by omega),iP,ny hd hi,bS,KZ,show ((fP (limbs n) i:Nat):Int) % 65536=((fP (limbs n) i:Nat):Int) by omega,qo (by simp;unfold lim;omega),bS,lY (by omega),List.take_succ_eq_append_getElem hi,CQ hd hi]) (by
  unfold qF
  simp only [aW]
  rw [dF (by omega),iT,List.take_length]) N (by rw [mP];omega)
 rw [List.take_zero] at this
 have hneg:(aB .gtr (List.length (limbs n):Int) 0)=decide (n≠0):=by
  rw [fE,mP,decide_eq_decide]
  constructor
  ·intro h e;rw [e,JA] at h;omega
  ·intro h;have:=FI h;omega
 rw [hneg,this,← VW];rfl
theorem wR {N k:Nat} {x:ig} (h:Io k x) (hk:k≤900000) (hN:2 ^ 64≤N):kQ N x.Limbs=some (limbs (gW x).natAbs):=by
 have:=h.ll
 rw [pF];exact V4 h.dl (by omega) hN
theorem Oi {N k l:Nat} {x y:ig} (hx:Io k x) (hy:Io l y) (hk:k+l≤900000) (hN:2 ^ 64≤N):uN N x y=some (I (gW x * gW y)):=by
 unfold uN
 have h1:=hx.nl
 have h2:=hy.nl
 have h3:=FH (gW x).natAbs (gW y).natAbs
 rw [wR hx (by omega) hN,bS,wR hy (by omega) hN,bS,II (by omega) (by omega) hN,bS,xB (by omega) hN,bS]
 congr 2
 rw [pF,pF]
 unfold gW
 cases x.Neg <;> cases y.Neg <;> simp [Int.neg_mul,Int.mul_neg]
theorem XG {N k l:Nat} {x y:ig} (hx:Io k x) (hy:Io l y) (hk:k≤800000) (hl:l≤800000) (hN:2 ^ 64≤N):yD N x y=some (I (gW x+gW y)):=by
  unfold yD
  have h1:=hx.nl
  have h2:=hy.nl
  rw [wR hx (by omega) hN,bS,wR hy (by omega) hN,bS]
  rw [pF] at *
  rw [pF] at *
  have h3:=VH (val x.Limbs) (val y.Limbs)
  by_cases hs:x.Neg=y.Neg
  · rw [show (x.Neg == y.Neg) = true by rw [hs]; simp, iP, V6 (by omega) (by omega) hN, bS, xB (by omega) hN, bS]
    congr 2
    unfold gW
    rw [hs]
    cases y.Neg <;> simp <;> omega
  · rw [show (x.Neg == y.Neg) = false by simpa using hs, iT]
    obtain ⟨c,hc,P7,ZN⟩:=I7 (N:=N) (a:=val x.Limbs) (b:=val y.Limbs) (by omega) (by omega) hN
    rw [hc,bS,jD]
    by_cases hlt:val x.Limbs<val y.Limbs
    · have h4 : nl (val y.Limbs - val x.Limbs) ≤ nl (val y.Limbs) := uG (by omega)
      rw [dF (by have:=P7.2 hlt;omega),iT,IG (by omega) (by omega) hN,bS,xB (by omega) hN,bS]
      congr 2
      unfold gW
      cases hxn:x.Neg <;> cases hyn:y.Neg <;> rw [hxn,hyn] at hs <;> simp at hs ⊢ <;> omega
    · have h4 : nl (val x.Limbs - val y.Limbs) ≤ nl (val x.Limbs) := uG (by omega)
      rw [dT (by have:¬ c<0:=fun h=>hlt (P7.1 h);omega),iP,IG (by omega) (by omega) hN,bS,xB (by omega) hN,bS]
      congr 2
      unfold gW
      cases hxn:x.Neg <;> cases hyn:y.Neg <;> rw [hxn,hyn] at hs <;> simp at hs ⊢ <;> omega
theorem XH {N k:Nat} {x:ig} (hx:Io k x) (hk:k≤800000) (hN:2 ^ 64≤N):yC N x=some (I (-gW x)):=by
 unfold yC
 have h1:=hx.nl
 rw [wR hx (by omega) hN,bS,xB (by omega) hN,bS]
 congr 2
 rw [pF]
 unfold gW
 cases x.Neg <;> simp
theorem V7 {N k:Nat} {x:ig} (hx:Io k x) (hk:k≤900000) (hN:2 ^ 64≤N):wX N x=some (gW x).sign:=by
 unfold wX
 rw [wR hx hk hN,bS,lK,mP,← VY]
 by_cases h:(gW x).natAbs=0
 ·rw [h,JA,if_pos rfl];rfl
 ·have:=FI h
  rw [dF (by omega),iT,if_neg h]
  cases x.Neg <;> rfl
theorem ZO {N:Nat} {z:Int} (h0:-9223372036854775808≤z) (h1:z≤9223372036854775807) (hN:2 ^ 64≤N):zF N z=some (I z):=by
 unfold zF
 have hl:nl z.natAbs≤4:=DZ (by omega)
 have hstart:((bif aB .lss z 0 then some (IntKind.u64.wrap (0 - IntKind.u64.wrap z)) else some (IntKind.u64.wrap z)):Option Int)=some ((z.natAbs:Nat):Int):=by
  rw [aW]
  by_cases hz:z<0
  ·rw [dT hz,iP,IntKind.wrap_u64,IntKind.wrap_u64];congr 1;omega
  ·rw [dF hz,iT,IntKind.wrap_u64];congr 1;omega
 rw [hstart,bS]
 have hloop:aX (vS N) N ([],((z.natAbs:Nat):Int))=some (limbs z.natAbs):=by
  generalize hn:z.natAbs=n at *
  refine vZ (fun s=>∃ k:Nat,s.2=(k:Int)∧k≤n∧s.1 ++ limbs k=limbs n) (fun s=>s.2.toNat) (limbs n) ?_ N _ ⟨n,rfl,Nat.le_refl _,by simp⟩ (by simp only [];omega)
  rintro ⟨acc,kk⟩ ⟨k,hs,hk,hv⟩
  simp only at hs hv;subst hs
  unfold vS
  simp only [fE]
  by_cases hk0:k=0
  ·subst hk0
   refine .inr ?_
   rw [jB,List.append_nil] at hv
   rw [hv];rfl
  ·have hlen:=congrArg List.length hv
   rw [List.length_append,mP,mP] at hlen
   have hkp:=FI hk0
   have hq:Fj .u64 (k:Int) ((65536:Nat):Int)=some ((k / 65536:Nat):Int):=X9 (by decide) (by omega)
   rw [dT (by omega),iP,show (65536:Int)=((65536:Nat):Int) from rfl,TN (by decide),bS,jd (by omega) (by omega),qo (by simp;unfold lim;omega),bS,hq,bS]
   refine .inl ⟨_,rfl,⟨k / 65536,rfl,by omega,?_⟩,by simp only [];omega⟩
   rw [← hv,nV hk0];simp
 rw [hloop,bS,xB (by omega) hN,bS]
 congr 2
 rw [aW]
 by_cases hz:z<0
 ·rw [dT hz,iP];omega
 ·rw [dF hz,iT];omega
theorem P9 {N k l:Nat} {a b:ig} (ha:Io k a) (hb:Io l b) (hk:k≤400000) (hl:l≤400000) (hN:2 ^ 64≤N):sN N a b=some (R ((gW a:Rat) / ((if gW b=0 then 1 else gW b:Int):Rat))):=by
  unfold sN
  have h1:=ha.nl
  have h2:=hb.nl
  rw [wR ha (by omega) hN,bS,wR hb (by omega) hN,bS]
  simp only [mP,lK]
  by_cases hb0:gW b=0
  · rw [hb0,Int.natAbs_zero,JA,if_pos rfl]
    rw [show decide ((((0:Nat):Int))=0)=true from rfl,iP,xB (by omega) hN,bS,ZO (by omega) (by omega) hN,bS]
    congr 1
    unfold R
    have e:(gW a:Rat) / ((1:Int):Rat)=(gW a:Rat):=by rw [Rat.intCast_one];grind
    rw [e,Rat.num_intCast,Rat.den_intCast]
    congr 2
    rw [pF];unfold gW
    cases a.Neg <;> simp
  · have hm0 : (gW b).natAbs ≠ 0 := by omega
    have hlp:=FI hm0
    have hg0:Nat.gcd (gW a).natAbs (gW b).natAbs≠0:=fun e=>hm0 (Nat.eq_zero_of_gcd_eq_zero_right e)
    have hgl:nl (Nat.gcd (gW a).natAbs (gW b).natAbs)≤nl (gW b).natAbs:=uG (Nat.gcd_le_right _ (by omega))
    have hda:nl ((gW a).natAbs / Nat.gcd (gW a).natAbs (gW b).natAbs)≤nl (gW a).natAbs:=uG (Nat.div_le_self _ _)
    have hdb:nl ((gW b).natAbs / Nat.gcd (gW a).natAbs (gW b).natAbs)≤nl (gW b).natAbs:=uG (Nat.div_le_self _ _)
    have hR:R ((gW a:Rat) / (gW b:Rat))=⟨I (bif (!(a.Neg == b.Neg)) then -(((gW a).natAbs / Nat.gcd (gW a).natAbs (gW b).natAbs:Nat):Int) else (((gW a).natAbs / Nat.gcd (gW a).natAbs (gW b).natAbs:Nat):Int)),I (((gW b).natAbs / Nat.gcd (gW a).natAbs (gW b).natAbs:Nat):Int)⟩:=by
      unfold R
      rw [← Rat.divInt_eq_div,Rat.num_divInt,Rat.den_divInt,if_neg hb0]
      have hgc:Int.gcd (gW b) (gW a)=Nat.gcd (gW a).natAbs (gW b).natAbs:=by rw [Int.gcd_eq_natAbs_gcd_natAbs,Nat.gcd_comm]
      rw [hgc]
      have hdvd:((Nat.gcd (gW a).natAbs (gW b).natAbs:Nat):Int) ∣ ((gW a).natAbs:Int):=Int.natCast_dvd_natCast.2 (Nat.gcd_dvd_left _ _)
      congr 2
      rw [pF] at *
      rw [pF] at *
      generalize Nat.gcd (val a.Limbs) (val b.Limbs)=g at *
      rw [Int.natCast_ediv]
      have hbp:0<val b.Limbs:=by omega
      unfold gW
      cases a.Neg <;> cases b.Neg <;> simp only [if_true,Bool.false_eq_true,if_false,Int.sign_neg,Int.sign_eq_one_of_pos (show (0:Int)<(val b.Limbs:Int) by omega),Int.one_mul,Int.neg_mul,Int.neg_neg,Int.mul_neg] <;> simp [Int.neg_ediv_of_dvd hdvd]
    rw [if_neg hb0,hR,dF (by omega),iT,XF (by omega) (by omega) hN,bS,Lj hg0 (by omega) (by omega) hN,bS,Lj hg0 (by omega) (by omega) hN,bS,xB (by omega) hN,bS,xB (by omega) hN,bS]
    rfl
theorem XI {N k l:Nat} {a b:Int} (ha:nl a.natAbs≤k) (hb:nl b.natAbs≤l) (hk:k≤400000) (hl:l≤400000) (hb0:b≠0) (hN:2 ^ 64≤N):sN N (I a) (I b)=some (R ((a:Rat) / (b:Rat))):=by
 rw [P9 (Io.I ha) (Io.I hb) hk hl hN,vI,vI,if_neg hb0]
theorem Ar {N k:Nat} {x:jq} {q:Rat} (h:Qf k x q) (hk:k≤4000000) (hN:2 ^ 64≤N):mY N x=some (R q):=by
 unfold mY
 rw [P9 h.ion h.iod (by omega) (by omega) hN,← h.vq]
 rfl
theorem Sz.num {k:Nat} {q:Rat} (h:Sz k q):nl q.num.natAbs≤k / 16+1:=Og (by unfold Sz at h;omega)
theorem Sz.den {k:Nat} {q:Rat} (h:Sz k q):nl ((q.den:Int)).natAbs≤k / 16+1:=Og (by unfold Sz at h;rw [Int.natAbs_natCast];omega)
theorem QZ {N k l:Nat} {x y:jq} {p q:Rat} (hx:Qf k x p) (hy:Qf l y q) (hk:k+l≤2000000) (hN:2 ^ 64≤N):uO N x y=some (R (p+q)):=by
 unfold uO
 have hp:=hx.sz;have hq:=hy.sz
 have h1:=hp.num;have h2:=hp.den;have h3:=hq.num;have h4:=hq.den
 have hn1:=FH p.num.natAbs ((q.den:Int)).natAbs
 have hn2:=FH q.num.natAbs ((p.den:Int)).natAbs
 have hd:=FH ((p.den:Int)).natAbs ((q.den:Int)).natAbs
 have hn3:=uG (Int.natAbs_add_le (p.num * (q.den:Int)) (q.num * (p.den:Int)))
 have hn4:=VH (p.num * (q.den:Int)).natAbs (q.num * (p.den:Int)).natAbs
 rw [← Int.natAbs_mul] at hn1 hn2 hd
 rw [Ar hx (by omega) hN,bS,Ar hy (by omega) hN,bS]
 unfold R
 simp only []
 rw [Oi (Io.I h1) (Io.I h4) (by omega) hN,bS,Oi (Io.I h3) (Io.I h2) (by omega) hN,bS,vI,vI,vI,vI]
 rw [XG (Io.I (Nat.le_refl _)) (Io.I (Nat.le_refl _)) (by omega) (by omega) hN,bS,Oi (Io.I h2) (Io.I h4) (by omega) hN,bS,vI,vI,vI,vI,XI (Nat.le_refl _) (Nat.le_refl _) (by omega) (by omega) (Int.mul_ne_zero (vJ p) (vJ q)) hN,bS]
 congr 1
 have hb1:=CV (vJ p);have hb2:=CV (vJ q)
 have e1:=CU p;have e2:=CU q
 rw [Rat.intCast_mul,Rat.intCast_add,Rat.intCast_mul,Rat.intCast_mul]
 show R _=R _
 congr 1
 conv=>rhs;rw [e1,e2]
 grind
theorem Q5 {N k:Nat} {x:jq} {q:Rat} (h:Qf k x q) (hk:k≤2000000) (hN:2 ^ 64≤N):uM N x=some (R (-q)):=by
 unfold uM
 have h1:=h.sz.num
 rw [Ar h (by omega) hN,bS]
 unfold R
 simp only []
 rw [XH (Io.I h1) (by omega) hN,bS,vI,Rat.neg_num,Rat.neg_den]
theorem Q7 {N k l:Nat} {x y:jq} {p q:Rat} (hx:Qf k x p) (hy:Qf l y q) (hk:k+l+17≤2000000) (hN:2 ^ 64≤N):uP N x y=some (R (p - q)):=by
 unfold uP
 rw [Q5 hy (by omega) hN,bS,QZ hx (Qf.R hy.sz.neg) (by omega) hN,bS,Rat.sub_eq_add_neg]
theorem Qa {N k:Nat} {x:jq} {q:Rat} (h:Qf k x q) (hk:k≤2000000) (hN:2 ^ 64≤N):tV N x=some (VO q):=by
 unfold tV
 have h1:=h.sz.num
 rw [Ar h (by omega) hN,bS]
 unfold R
 simp only []
 rw [V7 (Io.I h1) (by omega) hN,bS,vI,VZ]
theorem KQ {N k l:Nat} {x y:jq} {p q:Rat} (hx:Qf k x p) (hy:Qf l y q) (hk:k+l+34≤2000000) (hN:2 ^ 64≤N):rG N x y=some (XB p q):=by
 unfold rG XB
 rw [Q7 hx hy (by omega) hN,bS,Qa (Qf.R (hx.sz.sub hy.sz)) (by omega) hN]
 rfl
end Go.KB
