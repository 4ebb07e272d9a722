/- The library's symMerge merges, stably: the general case. The library's insertion sort of a block, stably. The library's insertion sort sorts a block, stably. The library's stable sort: blocks, and a pass that merges them two by two. No condition. -/
import Derived.Test.YtehmpjjbmldcnaaPZs
namespace Go.KB
set_option linter.unusedVariables false
theorem MR.rot {L0:List ah} {π π':Nat→Nat} {a b e m d:Nat} (h1:a≤e) (h2:e≤m) (h3:m≤d) (h4:d≤b) (h:MR L0 (fun k=>π (su e m d k)) π' a b):MR L0 π π' a b:=by
 refine ⟨fun k hk=>?_,h.so,fun k x y=>?_⟩
 ·rw [h.out k hk]
  have:=qX e m d k
  show π (su e m d k)=π k
  congr 1;omega
 ·obtain ⟨i,i1,i2,i3⟩:=h.of k x y
  have:=qX e m d i
  exact ⟨su e m d i,by omega,by omega,i3⟩
section
variable {L0:List ah} {φ:GR} {c:ah→ah→Int} (hφ:∀ x y,φ x y=some (c x y)) (hc:∀ x y,decide (c x y<0)=decide (x.piece<y.piece)) (hL:L0.length<1000000)
include hφ hc hL in
theorem Xr {N:Nat} (hN:2000000≤N) {rc:List ah→Int→Int→Int→GR→Option (List ah)} {π:Nat→Nat} {a m b:Nat} (ha:a<m) (hb:m<b) (hm1:m≠a+1) (hm2:b≠m+1) (h3:b≤L0.length) (h:MS L0 π a m b)
    (hrc:∀ (π:Nat→Nat) (x y z:Nat),x<y→y<z→z≤L0.length→z - x<b - a→MS L0 π x y z→∃ π',rc (bD L0 π) (x:Int) (y:Int) (z:Int) φ=some (bD L0 π')∧MR L0 π π' x z) :
    ∃ π',dA N rc (bD L0 π) (a:Int) (m:Int) (b:Int) φ=some (bD L0 π')∧MR L0 π π' a b:=by
  have hl:=fZ L0 π
  obtain ⟨mid,hmid⟩:∃ mid,mid=(a+b) / 2:=⟨_,rfl⟩
  obtain ⟨s0,hs0⟩:∃ s0,s0=if mid<m then mid+m - b else a:=⟨_,rfl⟩
  obtain ⟨r0,hr0⟩:∃ r0,r0=if mid<m then mid else m:=⟨_,rfl⟩
  have b1:a≤s0∧s0≤r0∧r0≤m∧r0≤mid∧mid+m - b≤s0∧(s0=a∨s0+b=mid+m)∧(r0=m∨r0=mid):=by
    rw [hs0,hr0]
    split <;> omega
  have hst:(bif decide ((mid:Int)<(m:Int)) then (some (IntKind.i64.wrap (IntKind.i64.wrap ((mid:Int)+(m:Int)) - (b:Int)),(mid:Int)):Option (Int×Int)) else some ((a:Int),(m:Int)))=some ((s0:Int),(r0:Int)):=by
    rw [hs0,hr0]
    by_cases q:mid<m
    · rw [dT (by omega),iP,if_pos q,if_pos q,show (mid:Int)+(m:Int)=((mid+m:Nat):Int) by omega,jd (n:=((mid+m:Nat):Int)) (by omega) (by omega),show ((mid+m:Nat):Int) - (b:Int)=((mid+m - b:Nat):Int) by omega,jd (n:=((mid+m - b:Nat):Int)) (by omega) (by omega)]
    · rw [dF (by omega),iT,if_neg q,if_neg q]
  obtain ⟨e,he,e1,e2,e3,e4⟩:=FB (f:=gJ N (bD L0 π) (m:Int) φ (mid:Int)) (T:=fun k=>!decide (L0[π (mid+m - 1 - k)]!.piece<L0[π k]!.piece)) (lo:=s0) (hi:=r0) (fun s r q1 q2 q3=>by
    unfold gJ
    simp only []
    rw [aW,dT (by omega),iP,Ju (by omega),bS,jd (n:=(mid:Int)) (by omega) (by omega),show (mid:Int)+(m:Int)=((mid+m:Nat):Int) by omega,jd (n:=((mid+m:Nat):Int)) (by omega) (by omega),show ((mid+m:Nat):Int) - 1=((mid+m - 1:Nat):Int) by omega,jd (n:=((mid+m - 1:Nat):Int)) (by omega) (by omega),jd (n:=(((s+r) / 2:Nat):Int)) (by omega) (by omega),show ((mid+m - 1:Nat):Int) - (((s+r) / 2:Nat):Int)=((mid+m - 1 - (s+r) / 2:Nat):Int) by omega,jd (n:=((mid+m - 1 - (s+r) / 2:Nat):Int)) (by omega) (by omega),jK (by omega),bS,jK (by omega),bS,hφ,bS,aW,hc,iL (by omega),iL (by omega),lY (by omega)]
    cases decide (L0[π (mid+m - 1 - (s+r) / 2)]!.piece<L0[π ((s+r) / 2)]!.piece) <;> rfl) (fun s=>by
    unfold gJ
    simp only []
    rw [aW,dF (by omega),iT]) (r0 - s0) s0 r0 (Nat.le_refl _) (Nat.le_refl _) b1.2.1 (Nat.le_refl _) (fun q=>absurd q (Nat.lt_irrefl _)) (fun q=>absurd q (Nat.lt_irrefl _)) N (by omega)
  obtain ⟨d,hd⟩:∃ d,d=mid+m - e:=⟨_,rfl⟩
  have c1:a≤e∧e≤m∧m≤d∧d≤b∧e+(d - m)=mid∧a<mid∧mid<b:=by omega
  have hA:a<e→d<b→¬ L0[π d]!.piece<L0[π (e - 1)]!.piece:=fun x y=>by
    have:=e3 (by omega)
    have hz:mid+m - 1 - (e - 1)=d:=by omega
    rw [hz] at this
    simpa using this
  have hB:e<m→m<d→L0[π (d - 1)]!.piece<L0[π e]!.piece:=fun x y=>by
    have:=e4 (by omega)
    have hz:mid+m - 1 - e=d - 1:=by omega
    rw [hz] at this
    simpa using this
  obtain ⟨g1,g2,g3⟩:=halves h c1.1 c1.2.1 c1.2.2.1 c1.2.2.2.1 c1.2.2.2.2.1 hA hB
  have hrot:(bif (decide ((e:Int)<(m:Int))&&decide ((m:Int)<(d:Int))) then ((iD N (bD L0 π) (e:Int) (m:Int) (d:Int) φ).bind fun v52=>some v52) else (some (bD L0 π)))=some (bD L0 (fun k=>π (su e m d k))):=by
    by_cases q:e<m∧m<d
    · rw [dT (by omega),dT (by omega),Bool.and_self,iP,TK q.1 q.2 (by omega) (by omega) hN,bS,x9 fun k hk=>FC c1.2.1 c1.2.2.1 (by omega) hk]
    · have hq:(decide ((e:Int)<(m:Int))&&decide ((m:Int)<(d:Int)))=false:=by
        by_cases q1:e<m
        · rw [dF (p:=(m:Int)<(d:Int)) (by omega),Bool.and_false]
        · rw [dF (by omega),Bool.false_and]
      rw [hq,iT]
      congr 1
      refine sG fun k hk=>?_
      have:=qX e m d k
      congr 1;omega
  generalize hπ1:(fun k=>π (su e m d k))=π1 at g1 g2 g3 hrot
  have g3:∀ i j,a≤i→i<mid→mid≤j→j<b→lx L0 (π1 i) (π1 j):=fun i j x y z w=>by have:=g3 i j x y z w;rw [← hπ1];exact this
  have hr1:∃ π2,(bif (decide ((a:Int)<(e:Int))&&decide ((e:Int)<(mid:Int))) then ((rc (bD L0 π1) (a:Int) (e:Int) (mid:Int) φ).bind fun v56=>some v56) else (some (bD L0 π1)))=some (bD L0 π2)∧MR L0 π1 π2 a mid:=by
    by_cases q:a<e∧e<mid
    · obtain ⟨π2, p1, p2⟩ := hrc π1 a e mid q.1 q.2 (by omega) (by omega) g1
      exact ⟨π2,by rw [dT (by omega),dT (by omega),Bool.and_self,iP,p1];rfl,p2⟩
    · have hq:(decide ((a:Int)<(e:Int))&&decide ((e:Int)<(mid:Int)))=false:=by
        by_cases q1:a<e
        · rw [dF (p:=(e:Int)<(mid:Int)) (by omega),Bool.and_false]
        · rw [dF (by omega),Bool.false_and]
      exact ⟨π1,by rw [hq,iT],MR.same g1 (by omega)⟩
  obtain ⟨π2,p1,p2⟩:=hr1
  have g2':MS L0 π2 mid d b:=by
    have k:∀ k,mid≤k→π2 k=π1 k:=fun k hk=>p2.out k (by omega)
    exact ⟨fun i j x y z=>by rw [k i x,k j (by omega)];exact g2.s1 i j x y z,fun i j x y z=>by rw [k i (by omega),k j (by omega)];exact g2.s2 i j x y z,fun i j x y z w=>by rw [k i x,k j (by omega)];exact g2.tag i j x y z w⟩
  have hr2:∃ π3,(bif (decide ((mid:Int)<(d:Int))&&decide ((d:Int)<(b:Int))) then ((rc (bD L0 π2) (mid:Int) (d:Int) (b:Int) φ).bind fun v60=>some v60) else (some (bD L0 π2)))=some (bD L0 π3)∧MR L0 π2 π3 mid b:=by
    by_cases q:mid<d∧d<b
    · obtain ⟨π3, p1, p2⟩ := hrc π2 mid d b q.1 q.2 h3 (by omega) g2'
      exact ⟨π3,by rw [dT (by omega),dT (by omega),Bool.and_self,iP,p1];rfl,p2⟩
    · have hq:(decide ((mid:Int)<(d:Int))&&decide ((d:Int)<(b:Int)))=false:=by
        by_cases q1:mid<d
        · rw [dF (p:=(d:Int)<(b:Int)) (by omega),Bool.and_false]
        · rw [dF (by omega),Bool.false_and]
      exact ⟨π2,by rw [hq,iT],MR.same g2' (by omega)⟩
  obtain ⟨π3,p3,p4⟩:=hr2
  refine ⟨π3,?_,MR.rot c1.1 c1.2.1 c1.2.2.1 c1.2.2.2.1 (by rw [hπ1];exact p2.join p4 (by omega) (by omega) g3)⟩
  unfold dA
  rw [jd (n:=(m:Int) - (a:Int)) (by omega) (by omega),lK,dF (by omega),iT,jd (n:=(b:Int) - (m:Int)) (by omega) (by omega),lK,dF (by omega),iT,Ju (by omega),← hmid,bS,jd (n:=(mid:Int)) (by omega) (by omega),fE,hst,bS,he,bS,show (mid:Int)+(m:Int)=((mid+m:Nat):Int) by omega,jd (n:=((mid+m:Nat):Int)) (by omega) (by omega),show ((mid+m:Nat):Int) - (e:Int)=(d:Int) by omega,jd (n:=(d:Int)) (by omega) (by omega)]
  simp only [aW]
  rw [hrot,bS,p1,bS,p3]
include hφ hc hL in
theorem IY:∀ (n N:Nat) (π:Nat→Nat) (a m b:Nat),b - a≤n→2000000+n≤N→a<m→m<b→b≤L0.length→MS L0 π a m b→∃ π',dJ N (bD L0 π) (a:Int) (m:Int) (b:Int) φ=some (bD L0 π')∧MR L0 π π' a b:=by
 intro n
 induction n with
 | zero=>intro N π a m b h1 h2 h3 h4;omega
 | succ n ih =>
  intro N π a m b h1 h2 h3 h4 h5 h
  obtain ⟨N,rfl⟩:∃ x,N=x+1:=⟨N - 1,by omega⟩
  show ∃ π',dA N (dJ N) (bD L0 π) (a:Int) (m:Int) (b:Int) φ=some (bD L0 π')∧MR L0 π π' a b
  by_cases q1:m=a+1
  ·exact Xt hφ hc hL (by omega) q1 h4 h5 h
  ·by_cases q2 : b = m + 1
   ·exact Vx hφ hc hL (by omega) h3 q1 q2 h5 h
   ·exact Xr hφ hc hL (by omega) h3 h4 q1 q2 h5 h fun π x y z y1 y2 y3 y4 y5=>ih N π x y z (by omega) (by omega) y1 y2 y3 y5
end
end Go.KB
namespace Go.KB
set_option linter.unusedVariables false
section
variable {L0:List ah} {φ:GR} {c:ah→ah→Int} (hφ:∀ x y,φ x y=some (c x y)) (hc:∀ x y,decide (c x y<0)=decide (x.piece<y.piece)) (hL:L0.length<1000000)
include hφ hc hL in
theorem TL {N:Nat} {π:Nat→Nat} {a i:Nat} (hi:i<L0.length):∀ (w j M:Nat),j=a+w→j≤i→w<M→(∀ k,j≤k→k<i→L0[π i]!.piece<L0[π k]!.piece) →
  ∃ e:Nat,aX (bY N (a:Int) φ) M (bD (bD L0 π) (zX j i),(j:Int))=some (bD (bD L0 π) (zX e i))∧a≤e∧e≤i∧(a<e→¬ L0[π i]!.piece<L0[π (e - 1)]!.piece)∧(e<i→L0[π i]!.piece<L0[π e]!.piece):=by
 intro w
 have hl:=fZ L0 π
 induction w with
 | zero =>
  intro j M h1 h2 h3 h4
  obtain ⟨M,rfl⟩:∃ x,M=x+1:=⟨M - 1,by omega⟩
  obtain rfl:j=a:=by omega
  have:bY N (j:Int) φ (bD (bD L0 π) (zX j i),(j:Int))=some (.inr (bD (bD L0 π) (zX j i))):=by
   unfold bY
   simp only []
   rw [fE,dF (by omega)]
   rfl
  exact ⟨j,by rw [aX,this],Nat.le_refl _,h2,fun q=>absurd q (Nat.lt_irrefl _),fun q=>h4 j (Nat.le_refl _) q⟩
 | succ w ih =>
  intro j M h1 h2 h3 h4
  obtain ⟨M,rfl⟩:∃ x,M=x+1:=⟨M - 1,by omega⟩
  have hll:=fZ (bD L0 π) (zX j i)
  have d1:=nU j i j
  have d2:=nU j i (j - 1)
  have v1:(bD (bD L0 π) (zX j i))[j]! = L0[π i]!:=by rw [iL (by omega),show zX j i j=i by omega,iL (by omega)]
  have v2:(bD (bD L0 π) (zX j i))[j - 1]! = L0[π (j - 1)]!:=by rw [iL (by omega),show zX j i (j - 1)=j - 1 by omega,iL (by omega)]
  by_cases q:L0[π i]!.piece<L0[π (j - 1)]!.piece
  ·have:bY N (a:Int) φ (bD (bD L0 π) (zX j i),(j:Int))=some (.inl (bD (bD L0 π) (zX (j - 1) i),((j - 1:Nat):Int))):=by
    unfold bY
    simp only []
    rw [fE,dT (by omega),iP,show (j:Int) - 1=((j - 1:Nat):Int) by omega,jd (n:=((j - 1:Nat):Int)) (by omega) (by omega),jK (by omega),bS,iP,jK (by omega),bS,iP,hφ,bS,aW,hc,v1,v2,dT q,Bool.and_self,iP,bS,bS,bS,Int.toNat_natCast,Int.toNat_natCast,jK (by rw [List.length_set];omega),bS,← v1,← v2,PO (by omega) h2 (by omega)]
   obtain ⟨e,he,k⟩:=ih (j - 1) M (by omega) (by omega) (by omega) (fun k k1 k2=>by
    by_cases e:k=j - 1
    ·rw [e];exact q
    ·exact h4 k (by omega) k2)
   exact ⟨e,by rw [aX,this];exact he,k⟩
  ·have:bY N (a:Int) φ (bD (bD L0 π) (zX j i),(j:Int))=some (.inr (bD (bD L0 π) (zX j i))):=by
    unfold bY
    simp only []
    rw [fE,dT (by omega),iP,show (j:Int) - 1=((j - 1:Nat):Int) by omega,jd (n:=((j - 1:Nat):Int)) (by omega) (by omega),jK (by omega),bS,iP,jK (by omega),bS,iP,hφ,bS,aW,hc,v1,v2,dF q,Bool.and_false,iT]
   exact ⟨j,by rw [aX,this],by omega,h2,fun _=>q,fun x=>h4 j (Nat.le_refl _) x⟩
end
end Go.KB
namespace Go.KB
set_option linter.unusedVariables false
section
variable {L0:List ah} {φ:GR} {c:ah→ah→Int} (hφ:∀ x y,φ x y=some (c x y)) (hc:∀ x y,decide (c x y<0)=decide (x.piece<y.piece)) (hL:L0.length<1000000)
include hφ hc hL in
theorem CP {N:Nat} (hN:2000000≤N) {π:Nat→Nat} {a b:Nat} (hab:a≤b) (hb:b≤L0.length) (htag:∀ i j,a≤i→i<j→j<b→π i<π j):∃ π',eU N (bD L0 π) (a:Int) (b:Int) φ=some (bD L0 π')∧MR L0 π π' a b:=by
  have key:∀ (w i M:Nat) (ρ:Nat→Nat),i+w=b→a<i→w<M→MR L0 π ρ a i→∃ π',aX (bW N (a:Int) (b:Int) φ) M (bD L0 ρ,(i:Int))=some (bD L0 π')∧MR L0 π π' a b:=by
    intro w
    induction w with
    | zero =>
      intro i M ρ h1 h2 h3 h4
      obtain ⟨M,rfl⟩:∃ x,M=x+1:=⟨M - 1,by omega⟩
      obtain rfl:i=b:=by omega
      have:bW N (a:Int) (i:Int) φ (bD L0 ρ,(i:Int))=some (.inr (bD L0 ρ)):=by
        unfold bW
        simp only []
        rw [aW,dF (by omega),iT]
      exact ⟨ρ,by rw [aX,this],h4⟩
    | succ w ih =>
      intro i M ρ h1 h2 h3 h4
      obtain ⟨M,rfl⟩:∃ x,M=x+1:=⟨M - 1,by omega⟩
      have hρi:ρ i=π i:=h4.out i (by omega)
      have hms:MS L0 ρ a i (i+1):=⟨h4.so,fun x y p q r=>by omega,fun x y p q r t=>by
        obtain ⟨x',p1,p2,p3⟩:=h4.of x p q
        have:y=i:=by omega
        subst this
        rw [p3,hρi];exact htag x' y p1 p2 (by omega)⟩
      have h0:bD (bD L0 ρ) (zX i i)=bD L0 ρ:=by
        rw [sG (g:=fun k=>k) fun k hk=>?_,DY]
        have:=nU i i k
        omega
      obtain ⟨e,he,e1,e2,e3,e4⟩:=TL hφ hc hL (N:=N) (π:=ρ) (a:=a) (i:=i) (by omega) (i - a) i N (by omega) (Nat.le_refl _) (by omega) (fun k k1 k2=>by omega)
      rw [h0] at he
      have hmr:=PS hms rfl e1 e2 e3 e4
      have hstep:bW N (a:Int) (b:Int) φ (bD L0 ρ,(i:Int))=some (.inl (bD L0 (fun k=>ρ (zX e i k)),((i+1:Nat):Int))):=by
        unfold bW
        simp only []
        rw [aW,dT (by omega),iP,he,bS,lY (by omega),x9 fun k hk=>?_]
        have:=nU e i k
        omega
      obtain ⟨π',p1,p2⟩:=ih (i+1) M (fun k=>ρ (zX e i k)) (by omega) (by omega) (by omega) ⟨fun k hk=>by rw [hmr.out k hk];exact h4.out k (by omega),hmr.so,fun k k1 k2=>by
        obtain ⟨x,x1,x2,x3⟩:=hmr.of k k1 k2
        by_cases ex:x=i
        · exact ⟨i,by omega,by omega,by rw [x3,ex,hρi]⟩
        · obtain ⟨y, y1, y2, y3⟩ := h4.of x x1 (by omega)
          exact ⟨y,y1,by omega,by rw [x3,y3]⟩⟩
      exact ⟨π',by rw [aX,hstep];exact p1,p2⟩
  unfold eU
  by_cases q:a<b
  · obtain ⟨π', p1, p2⟩ := key (b - (a + 1)) (a + 1) N π (by omega) (by omega) (by omega) ⟨fun _ _ => rfl, fun i j x y z => by omega, fun k x y => ⟨k, x, y, rfl⟩⟩
    exact ⟨π',by rw [lY (by omega),p1];rfl,p2⟩
  · obtain rfl : a = b := by omega
    have:bW N (a:Int) (a:Int) φ (bD L0 π,((a+1:Nat):Int))=some (.inr (bD L0 π)):=by
      unfold bW
      simp only []
      rw [aW,dF (by omega),iT]
    obtain ⟨N,rfl⟩:∃ x,N=x+1:=⟨N - 1,by omega⟩
    exact ⟨π,by rw [lY (by omega),aX,this];rfl,⟨fun _ _=>rfl,fun i j x y z=>by omega,fun k x y=>⟨k,x,y,rfl⟩⟩⟩
end
end Go.KB
namespace Go.KB
set_option linter.unusedVariables false
structure KN (L0:List ah) (π:Nat→Nat) (a b:Nat):Prop where
 so:yK L0 π a b
 own:∀ k,a≤k→k<b→a≤π k∧π k<b
inductive Iw (L0:List ah) (π:Nat→Nat) (bs n:Nat):Nat→Prop
 | last {a:Nat}:n≤a+bs→a≤n→KN L0 π a n→Iw L0 π bs n a
 | cons {a:Nat}:a+bs<n→KN L0 π a (a+bs)→Iw L0 π bs n (a+bs)→Iw L0 π bs n a
theorem KN.ms {L0:List ah} {π:Nat→Nat} {a m b:Nat} (h1:KN L0 π a m) (h2:KN L0 π m b):MS L0 π a m b :=
 ⟨h1.so,h2.so,fun i j x y z w=>by have:=h1.own i x y;have:=h2.own j z w;omega⟩
theorem KN.mr {L0:List ah} {π π':Nat→Nat} {a m b:Nat} (h1:KN L0 π a m) (h2:KN L0 π m b) (ha:a≤m) (hb:m≤b) (h:MR L0 π π' a b):KN L0 π' a b :=
 ⟨h.so,fun k x y=>by
  obtain ⟨i,i1,i2,i3⟩:=h.of k x y
  rw [i3]
  by_cases q:i<m
  ·have:=h1.own i i1 q;omega
  ·have:=h2.own i (by omega) i2;omega⟩
theorem KN.congr {L0:List ah} {π π':Nat→Nat} {a b:Nat} (h:KN L0 π a b) (e:∀ k,a≤k→k<b→π' k=π k):KN L0 π' a b :=
 ⟨fun i j x y z=>by rw [e i x (by omega),e j (by omega) z];exact h.so i j x y z,fun k x y=>by rw [e k x y];exact h.own k x y⟩
theorem Iw.congr {L0:List ah} {π π':Nat→Nat} {bs n a:Nat} (h:Iw L0 π bs n a) (e:∀ k,a≤k→k<n→π' k=π k):Iw L0 π' bs n a:=by
 induction h with
 | last x y z=>exact .last x y (z.congr fun k k1 k2=>e k k1 k2)
 | cons x y z ih=>exact .cons x (y.congr fun k k1 k2=>e k k1 (by omega)) (ih fun k k1 k2=>e k (by omega) k2)
section
variable {L0:List ah} {φ:GR} {c:ah→ah→Int} (hφ:∀ x y,φ x y=some (c x y)) (hc:∀ x y,decide (c x y<0)=decide (x.piece<y.piece)) (hL:L0.length<1000000)
def Eg (N n bs:Nat) (φ:GR) (o:List ah×Int):Option (List ah):=bif decide (IntKind.i64.wrap (o.2+(bs:Int))<(n:Int)) then dJ N o.1 o.2 (IntKind.i64.wrap (o.2+(bs:Int))) (n:Int) φ else some o.1
include hφ hc hL in
theorem Xm {N bs:Nat} (hN:4000000≤N) (hbs:0<bs) (hbs2:bs<L0.length) (s1:List ah):∀ (w a M:Nat) (π:Nat→Nat),L0.length - a≤w→w<M→Iw L0 π bs L0.length a →
    ∃ π',(aX (cu N (L0.length:Int) φ (s1,(bs:Int))) M (bD L0 π,(a:Int),((a+2 * bs:Nat):Int))).bind (Eg N L0.length bs φ)=some (bD L0 π')∧(∀ k,k<a→π' k=π k)∧Iw L0 π' (2 * bs) L0.length a:=by
  intro w
  induction w with
  | zero =>
    intro a M π h1 h2 h3
    obtain ⟨M,rfl⟩:∃ x,M=x+1:=⟨M - 1,by omega⟩
    have ha:a=L0.length:=by cases h3 <;> omega
    have:cu N (L0.length:Int) φ (s1,(bs:Int)) (bD L0 π,(a:Int),((a+2 * bs:Nat):Int))=some (.inr (bD L0 π,(a:Int))):=by
      unfold cu
      simp only []
      rw [nZ,dF (by omega),iT]
    refine ⟨π,?_,fun _ _=>rfl,?_⟩
    · rw [aX,this]
      show Eg N L0.length bs φ (bD L0 π,(a:Int))=_
      unfold Eg
      simp only []
      rw [jd (by omega) (by omega),dF (by omega),iT]
    · exact .last (by omega) (by omega) (by cases h3 with | last x y z=>exact z | cons x y z=>omega)
  | succ w ih =>
    intro a M π h1 h2 h3
    obtain ⟨M,rfl⟩:∃ x,M=x+1:=⟨M - 1,by omega⟩
    by_cases q:a+2 * bs≤L0.length
    · obtain ⟨y1,z1⟩:KN L0 π a (a+bs)∧Iw L0 π bs L0.length (a+bs):=by
        cases h3 with
        | last x y z=>omega
        | cons x y z=>exact ⟨y,z⟩
      have y2:KN L0 π (a+bs) (a+2 * bs)∧(a+2 * bs<L0.length→Iw L0 π bs L0.length (a+2 * bs)):=by
        cases z1 with
        | last x y z=>exact ⟨by rw [show a+2 * bs=L0.length by omega];exact z,fun p=>by omega⟩
        | cons x y z=>exact ⟨by rw [show a+2 * bs=a+bs+bs by omega];exact y,fun _=>by rw [show a+2 * bs=a+bs+bs by omega];exact z⟩
      obtain ⟨ρ,p1,p2⟩:=IY hφ hc hL (2 * bs) N π a (a+bs) (a+2 * bs) (by omega) (by omega) (by omega) (by omega) q (y1.ms y2.1)
      have hb:=y1.mr y2.1 (by omega) (by omega) p2
      have hstep:cu N (L0.length:Int) φ (s1,(bs:Int)) (bD L0 π,(a:Int),((a+2 * bs:Nat):Int))=some (.inl (bD L0 ρ,((a+2 * bs:Nat):Int),((a+2 * bs+2 * bs:Nat):Int))):=by
        unfold cu
        simp only []
        rw [nZ,dT (by omega),iP,show (a:Int)+(bs:Int)=((a+bs:Nat):Int) by omega,jd (n:=((a+bs:Nat):Int)) (by omega) (by omega),p1,bS,show (2:Int) * (bs:Int)=((2 * bs:Nat):Int) by omega,jd (n:=((2 * bs:Nat):Int)) (by omega) (by omega),show ((a+2 * bs:Nat):Int)+((2 * bs:Nat):Int)=((a+2 * bs+2 * bs:Nat):Int) by omega,jd (by omega) (by omega)]
      have hseg:Iw L0 ρ bs L0.length (a+2 * bs):=by
        by_cases g:a+2 * bs<L0.length
        · exact (y2.2 g).congr fun k k1 k2=>p2.out k (by omega)
        · exact .last (by omega) q ⟨fun i j x y z=>by omega,fun k x y=>by omega⟩
      obtain ⟨π',t1,t2,t3⟩:=ih (a+2 * bs) M ρ (by omega) (by omega) hseg
      refine ⟨π',by rw [aX,hstep];exact t1,fun k hk=>by rw [t2 k (by omega)];exact p2.out k (by omega),?_⟩
      have hb':KN L0 π' a (a+2 * bs):=hb.congr fun k k1 k2=>t2 k k2
      by_cases g:a+2 * bs<L0.length
      · exact .cons g hb' t3
      · exact .last (by omega) (by omega) (by rw [show L0.length=a+2 * bs by omega];exact hb')
    · have hend:cu N (L0.length:Int) φ (s1,(bs:Int)) (bD L0 π,(a:Int),((a+2 * bs:Nat):Int))=some (.inr (bD L0 π,(a:Int))):=by
        unfold cu
        simp only []
        rw [nZ,dF (by omega),iT]
      rw [aX,hend]
      show ∃ π',Eg N L0.length bs φ (bD L0 π,(a:Int))=some (bD L0 π')∧_
      unfold Eg
      simp only []
      have hal:a≤L0.length:=by cases h3 <;> omega
      rw [show (a:Int)+(bs:Int)=((a+bs:Nat):Int) by omega,jd (n:=((a+bs:Nat):Int)) (by omega) (by omega)]
      by_cases g:a+bs<L0.length
      · obtain ⟨y1,z1⟩:KN L0 π a (a+bs)∧KN L0 π (a+bs) L0.length:=by
          cases h3 with
          | last x y z=>omega
          | cons x y z =>
            refine ⟨y,?_⟩
            cases z with
            | last _ _ z=>exact z
            | cons x _ _=>omega
        obtain ⟨ρ,p1,p2⟩:=IY hφ hc hL (2 * bs) N π a (a+bs) L0.length (by omega) (by omega) (by omega) g (Nat.le_refl _) (y1.ms z1)
        exact ⟨ρ,by rw [dT (by omega),iP,p1],fun k hk=>p2.out k (by omega),.last (by omega) hal (y1.mr z1 (by omega) (by omega) p2)⟩
      · refine ⟨π, by rw [dF (by omega), iT], fun _ _ => rfl, .last (by omega) hal ?_⟩
        cases h3 with
        | last x y z=>exact z
        | cons x y z=>omega
end
end Go.KB
