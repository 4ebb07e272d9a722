/- Lists whose elements change places. Blocks change places: the library's swapRange and rotate. The library's symMerge: binary searches, shifts by one. The library's symMerge merges, stably: the plain part. The library's symMerge merges, stably. No condition. -/
import Derived.Test.YtehmpjjbmldcnaaPZa
namespace Go.KB
set_option linter.unusedVariables false
section
variable {α:Type} [Inhabited α]
def bD (L:List α) (f:Nat→Nat):List α:=(List.range L.length).map fun k=>L[f k]!
theorem fZ (L:List α) (f:Nat→Nat):(bD L f).length=L.length:=by unfold bD;simp
theorem iL {L:List α} {f:Nat→Nat} {k:Nat} (h:k<L.length):(bD L f)[k]! = L[f k]!:=by
 rw [oU (by rw [fZ];exact h)]
 unfold bD
 rw [List.getElem_map,List.getElem_range]
theorem BD {L M:List α} (hl:L.length=M.length) (h:∀ k,k<L.length→L[k]! = M[k]!):L=M:=by
 refine List.ext_getElem hl fun k h1 h2=>?_
 rw [← oU h1,← oU h2];exact h k h1
theorem x9 {L:List α} {f g:Nat→Nat} (hg:∀ k,k<L.length→g k<L.length):bD (bD L f) g=bD L (fun k=>f (g k)):=by
 refine BD (by simp only [fZ]) fun k hk=>?_
 rw [fZ,fZ] at hk
 rw [iL (by rw [fZ];exact hk),iL (hg k hk),iL hk]
theorem sG {L:List α} {f g:Nat→Nat} (h:∀ k,k<L.length→f k=g k):bD L f=bD L g:=by
 refine BD (by simp only [fZ]) fun k hk=>?_
 rw [fZ] at hk
 rw [iL hk,iL hk,h k hk]
theorem DY (L:List α):bD L (fun k=>k)=L:=BD (fZ _ _) fun k hk=>by rw [fZ] at hk;exact iL hk
theorem BF {L:List α} {i k:Nat} {x:α} (hk:k<L.length):(L.set i x)[k]! = if i=k then x else L[k]!:=by
 rw [oU (by rw [List.length_set];exact hk),List.getElem_set]
 by_cases h:i=k
 ·rw [if_pos h,if_pos h]
 ·rw [if_neg h,if_neg h,oU hk]
def Jv (a b n k:Nat):Nat:=if a≤k∧k<a+n then b+(k - a) else if b≤k∧k<b+n then a+(k - b) else k
def su (a m b k:Nat):Nat:=if a≤k∧k<a+(b - m) then m+(k - a) else if a+(b - m)≤k∧k<b then a+(k - (a+(b - m))) else k
theorem wP (a b n k:Nat):(a≤k∧k<a+n∧Jv a b n k=b+(k - a))∨(¬(a≤k∧k<a+n)∧b≤k∧k<b+n∧Jv a b n k=a+(k - b))∨(¬(a≤k∧k<a+n)∧¬(b≤k∧k<b+n)∧Jv a b n k=k):=by
 unfold Jv
 by_cases h:a≤k∧k<a+n
 ·rw [if_pos h];exact .inl ⟨h.1,h.2,rfl⟩
 ·rw [if_neg h]
  by_cases h2:b≤k∧k<b+n
  ·rw [if_pos h2];exact .inr (.inl ⟨h,h2.1,h2.2,rfl⟩)
  ·rw [if_neg h2];exact .inr (.inr ⟨h,h2,rfl⟩)
theorem qX (a m b k:Nat):(a≤k∧k<a+(b - m)∧su a m b k=m+(k - a))∨(¬(a≤k∧k<a+(b - m))∧a+(b - m)≤k∧k<b∧su a m b k=a+(k - (a+(b - m))))∨(¬(a≤k∧k<a+(b - m))∧¬(a+(b - m)≤k∧k<b)∧su a m b k=k):=by
 unfold su
 by_cases h:a≤k∧k<a+(b - m)
 ·rw [if_pos h];exact .inl ⟨h.1,h.2,rfl⟩
 ·rw [if_neg h]
  by_cases h2:a+(b - m)≤k∧k<b
  ·rw [if_pos h2];exact .inr (.inl ⟨h,h2.1,h2.2,rfl⟩)
  ·rw [if_neg h2];exact .inr (.inr ⟨h,h2,rfl⟩)
theorem Vy {L:List α} {a b i:Nat} (hab:a+(i+1)≤b) (hb:b+(i+1)≤L.length):((bD L (Jv a b i)).set (a+i) (bD L (Jv a b i))[b+i]!).set (b+i) (bD L (Jv a b i))[a+i]! = bD L (Jv a b (i+1)):=by
 refine BD (by simp only [List.length_set,fZ]) fun k hk=>?_
 rw [List.length_set,List.length_set,fZ] at hk
 rw [BF (by rw [List.length_set,fZ];exact hk),BF (by rw [fZ];exact hk),iL (by omega),iL (by omega),iL hk,iL hk]
 have h1:=wP a b i (a+i)
 have h2:=wP a b i (b+i)
 have h3:=wP a b i k
 have h4:=wP a b (i+1) k
 by_cases e:b+i=k
 ·rw [if_pos e]
  congr 1;omega
 ·rw [if_neg e]
  by_cases e2:a+i=k
  ·rw [if_pos e2]
   congr 1;omega
  ·rw [if_neg e2]
   congr 1;omega
theorem FC {a m b k n:Nat} (h1:a≤m) (h2:m≤b) (h3:b≤n) (hk:k<n):su a m b k<n:=by
 have:=qX a m b k
 omega
theorem Zz {L:List α} {m i j:Nat} (hi:i≤m) (hj:m+j≤L.length) (h:j<i):bD (bD L (Jv (m - i) m j)) (su (m - (i - j)) m (m+j))=bD L (su (m - i) m (m+j)):=by
 rw [x9 fun k hk=>FC (by omega) (by omega) hj hk]
 refine sG fun k hk=>?_
 have h1:=qX (m - (i - j)) m (m+j) k
 have h2:=qX (m - i) m (m+j) k
 have h3:=wP (m - i) m j (su (m - (i - j)) m (m+j) k)
 omega
theorem ZA {L:List α} {m i j:Nat} (hi:i≤m) (hj:m+j≤L.length) (h:i<j):bD (bD L (Jv (m - i) (m+j - i) i)) (su (m - i) m (m+(j - i)))=bD L (su (m - i) m (m+j)):=by
 rw [x9 fun k hk=>FC (by omega) (by omega) (by omega) hk]
 refine sG fun k hk=>?_
 have h1:=qX (m - i) m (m+(j - i)) k
 have h2:=qX (m - i) m (m+j) k
 have h3:=wP (m - i) (m+j - i) i (su (m - i) m (m+(j - i)) k)
 omega
theorem ZB {L:List α} {m i:Nat} (hi:i≤m) (hj:m+i≤L.length):bD L (Jv (m - i) m i)=bD L (su (m - i) m (m+i)):=by
 refine sG fun k hk=>?_
 have h1:=qX (m - i) m (m+i) k
 have h2:=wP (m - i) m i k
 omega
end
end Go.KB
namespace Go.KB
set_option linter.unusedVariables false
instance:Inhabited ah:=⟨⟨0,false,⟨0,0,0,0⟩⟩⟩
abbrev GR:=ah→ah→Option Int
theorem swap_eq {N:Nat} {L:List ah} {a b n:Nat} {φ:GR} (hab:a+n≤b) (hb:b+n≤L.length) (hL:L.length<1000000) (hN:1000000≤N):fQ N L (a:Int) (b:Int) (n:Int) φ=some (bD L (Jv a b n)):=by
 have hstep:∀ i,i<n→dV N (a:Int) (b:Int) (n:Int) (bD L (Jv a b i),(i:Int))=some (.inl (bD L (Jv a b (i+1)),((i+1:Nat):Int))):=by
  intro i hi
  have hl:=fZ L (Jv a b i)
  unfold dV
  simp only []
  rw [aW,dT (by omega),iP,show (b:Int)+(i:Int)=((b+i:Nat):Int) by omega,show (a:Int)+(i:Int)=((a+i:Nat):Int) by omega,jd (n:=((b+i:Nat):Int)) (by omega) (by omega),jd (n:=((a+i:Nat):Int)) (by omega) (by omega),jK (by omega),bS,jK (by omega),bS,bS,Int.toNat_natCast,Int.toNat_natCast,jK (by rw [List.length_set];omega),bS,lY (by omega),Vy (by omega) (by omega)]
 have hend:dV N (a:Int) (b:Int) (n:Int) (bD L (Jv a b n),(n:Int))=some (.inr (bD L (Jv a b n))):=by
  unfold dV
  simp only []
  rw [aW,dF (by omega),iT]
 have h0:bD L (Jv a b 0)=L:=by
  rw [sG (g:=fun k=>k) fun k hk=>?_,DY]
  have:=wP a b 0 k
  omega
 unfold fQ
 have:=xY (f:=dV N (a:Int) (b:Int) (n:Int)) n (fun i=>bD L (Jv a b i)) (bD L (Jv a b n)) hstep hend N (by omega)
 simp only [h0] at this
 rw [this];rfl
theorem Vz {N:Nat} {m:Nat} {φ:GR} (hN:1000000≤N):∀ (w:Nat) (D:List ah) (i j:Nat),i+j≤w→0<i→0<j→i≤m→m+j≤D.length→D.length<1000000→∀ M,w<M →
  ∃ (D':List ah) (k:Nat),aX (dD N (m:Int) φ) M (D,(i:Int),(j:Int))=some (D',(k:Int))∧0<k∧k≤m∧m+k≤D.length∧D'.length=D.length∧bD D' (su (m - k) m (m+k))=bD D (su (m - i) m (m+j)):=by
 intro w
 induction w with
 | zero=>intro D i j h h1;omega
 | succ w ih =>
  intro D i j hw h1 h2 h3 h4 h5 M hM
  obtain ⟨M,rfl⟩:∃ x,M=x+1:=⟨M - 1,by omega⟩
  by_cases e:i=j
  ·subst e
   refine ⟨D,i,?_,h1,h3,h4,rfl,rfl⟩
   have:dD N (m:Int) φ (D,(i:Int),(i:Int))=some (.inr (D,(i:Int))):=by
    unfold dD
    simp only []
    rw [lV,dT rfl];rfl
   rw [aX,this]
  ·by_cases g : j < i
   ·have hs:dD N (m:Int) φ (D,(i:Int),(j:Int))=some (.inl (bD D (Jv (m - i) m j),((i - j:Nat):Int),(j:Int))):=by
     unfold dD
     simp only []
     rw [lV,dF (by omega),Bool.not_false,iP,fE,dT (by omega),iP,show (m:Int) - (i:Int)=((m - i:Nat):Int) by omega,jd (n:=((m - i:Nat):Int)) (by omega) (by omega),swap_eq (by omega) (by omega) h5 hN,bS,show (i:Int) - (j:Int)=((i - j:Nat):Int) by omega,jd (n:=((i - j:Nat):Int)) (by omega) (by omega)]
    obtain ⟨D',k,e1,e2,e3,e4,e5,e6⟩:=ih (bD D (Jv (m - i) m j)) (i - j) j (by omega) (by omega) h2 (by omega) (by rw [fZ];exact h4) (by rw [fZ];exact h5) M (by omega)
    rw [fZ] at e4 e5
    refine ⟨D',k,by rw [aX,hs];exact e1,e2,e3,e4,e5,?_⟩
    rw [e6,Zz h3 h4 g]
   ·have hs:dD N (m:Int) φ (D,(i:Int),(j:Int))=some (.inl (bD D (Jv (m - i) (m+j - i) i),(i:Int),((j - i:Nat):Int))):=by
     unfold dD
     simp only []
     rw [lV,dF (by omega),Bool.not_false,iP,fE,dF (by omega),iT,show (m:Int) - (i:Int)=((m - i:Nat):Int) by omega,jd (n:=((m - i:Nat):Int)) (by omega) (by omega),show (m:Int)+(j:Int)=((m+j:Nat):Int) by omega,jd (n:=((m+j:Nat):Int)) (by omega) (by omega),show ((m+j:Nat):Int) - (i:Int)=((m+j - i:Nat):Int) by omega,jd (n:=((m+j - i:Nat):Int)) (by omega) (by omega),swap_eq (by omega) (by omega) h5 hN,bS,show (j:Int) - (i:Int)=((j - i:Nat):Int) by omega,jd (n:=((j - i:Nat):Int)) (by omega) (by omega)]
    obtain ⟨D',k,e1,e2,e3,e4,e5,e6⟩:=ih (bD D (Jv (m - i) (m+j - i) i)) i (j - i) (by omega) h1 (by omega) h3 (by rw [fZ];omega) (by rw [fZ];exact h5) M (by omega)
    rw [fZ] at e4 e5
    refine ⟨D',k,by rw [aX,hs];exact e1,e2,e3,e4,e5,?_⟩
    rw [e6,ZA h3 h4 (by omega)]
theorem TK {N:Nat} {L:List ah} {a m b:Nat} {φ:GR} (h1:a<m) (h2:m<b) (h3:b≤L.length) (hL:L.length<1000000) (hN:2000000≤N):iD N L (a:Int) (m:Int) (b:Int) φ=some (bD L (su a m b)):=by
 obtain ⟨D',k,e1,e2,e3,e4,e5,e6⟩:=Vz (N:=N) (m:=m) (φ:=φ) (by omega) (b - a) L (m - a) (b - m) (by omega) (by omega) (by omega) (by omega) (by omega) hL N (by omega)
 unfold iD
 rw [show (m:Int) - (a:Int)=((m - a:Nat):Int) by omega,show (b:Int) - (m:Int)=((b - m:Nat):Int) by omega,jd (n:=((m - a:Nat):Int)) (by omega) (by omega),jd (n:=((b - m:Nat):Int)) (by omega) (by omega),e1,bS]
 simp only []
 rw [show (m:Int) - (k:Int)=((m - k:Nat):Int) by omega,jd (n:=((m - k:Nat):Int)) (by omega) (by omega),swap_eq (by omega) (by omega) (by omega) (by omega),bS,ZB e3 (by omega),e6,show m - (m - a)=a by omega,show m+(b - m)=b by omega]
end Go.KB
namespace Go.KB
set_option linter.unusedVariables false
theorem Ju {s r:Nat} (h:s+r<4000000):vG .u64 (IntKind.u64.wrap (IntKind.i64.wrap ((s:Int)+(r:Int)))) 1=some (((s+r) / 2:Nat):Int):=by
 rw [show (s:Int)+(r:Int)=((s+r:Nat):Int) by omega,jd (by omega) (by omega),GV (by omega) (by omega)]
 unfold vG
 rw [if_neg (by omega)]
 show some (Int.fdiv ((s+r:Nat):Int) 2)=_
 rw [Int.fdiv_eq_ediv_of_nonneg _ (by omega)]
 congr 1
theorem FB {f:(Int×Int)→Option ((Int×Int) ⊕ Int)} {T:Nat→Bool} {lo hi:Nat} (hlt:∀ s r:Nat,lo≤s→s<r→r≤hi→f ((s:Int),(r:Int))=some (.inl (bif T ((s+r) / 2) then ((((s+r) / 2+1:Nat):Int),(r:Int)) else ((s:Int),(((s+r) / 2:Nat):Int))))) (heq:∀ s:Nat,f ((s:Int),(s:Int))=some (.inr (s:Int))) :
    ∀ (w s r:Nat),r - s≤w→lo≤s→s≤r→r≤hi→(lo<s→T (s - 1)=true)→(r<hi→T r=false)→∀ M,w<M→∃ e:Nat,aX f M ((s:Int),(r:Int))=some (e:Int)∧lo≤e∧e≤hi∧(lo<e→T (e - 1)=true)∧(e<hi→T e=false):=by
  intro w
  induction w with
  | zero =>
    intro s r h1 h2 h3 h4 h5 h6 M hM
    obtain ⟨M,rfl⟩:∃ x,M=x+1:=⟨M - 1,by omega⟩
    obtain rfl:s=r:=by omega
    exact ⟨s,by rw [aX,heq],h2,h4,h5,h6⟩
  | succ w ih =>
    intro s r h1 h2 h3 h4 h5 h6 M hM
    obtain ⟨M,rfl⟩:∃ x,M=x+1:=⟨M - 1,by omega⟩
    by_cases e:s=r
    · subst e
      exact ⟨s,by rw [aX,heq],h2,h4,h5,h6⟩
    · have hs := hlt s r h2 (by omega) h4
      cases hT:T ((s+r) / 2) with
      | true =>
        rw [hT,iP] at hs
        obtain ⟨x,hx,k⟩:=ih ((s+r) / 2+1) r (by omega) (by omega) (by omega) h4 (fun _=>by rw [Nat.add_sub_cancel];exact hT) h6 M (by omega)
        exact ⟨x,by rw [aX,hs];exact hx,k⟩
      | false =>
        rw [hT,iT] at hs
        obtain ⟨x,hx,k⟩:=ih s ((s+r) / 2) (by omega) h2 (by omega) (by omega) h5 (fun _=>hT) M (by omega)
        exact ⟨x,by rw [aX,hs];exact hx,k⟩
section
variable {α:Type} [Inhabited α]
def FO (a e k:Nat):Nat:=if a≤k∧k<e then k+1 else if k=e∧a≤e then a else k
def zX (e m k:Nat):Nat:=if e<k∧k≤m then k - 1 else if k=e∧e≤m then m else k
theorem rY (a e k:Nat):(a≤k∧k<e∧FO a e k=k+1)∨(¬(a≤k∧k<e)∧k=e∧a≤e∧FO a e k=a)∨(¬(a≤k∧k<e)∧¬(k=e∧a≤e)∧FO a e k=k):=by
 unfold FO
 by_cases h:a≤k∧k<e
 ·rw [if_pos h];exact .inl ⟨h.1,h.2,rfl⟩
 ·rw [if_neg h]
  by_cases h2:k=e∧a≤e
  ·rw [if_pos h2];exact .inr (.inl ⟨h,h2.1,h2.2,rfl⟩)
  ·rw [if_neg h2];exact .inr (.inr ⟨h,h2,rfl⟩)
theorem nU (e m k:Nat):(e<k∧k≤m∧zX e m k=k - 1)∨(¬(e<k∧k≤m)∧k=e∧e≤m∧zX e m k=m)∨(¬(e<k∧k≤m)∧¬(k=e∧e≤m)∧zX e m k=k):=by
 unfold zX
 by_cases h:e<k∧k≤m
 ·rw [if_pos h];exact .inl ⟨h.1,h.2,rfl⟩
 ·rw [if_neg h]
  by_cases h2:k=e∧e≤m
  ·rw [if_pos h2];exact .inr (.inl ⟨h,h2.1,h2.2,rfl⟩)
  ·rw [if_neg h2];exact .inr (.inr ⟨h,h2,rfl⟩)
theorem VA {L:List α} {a k:Nat} (ha:a≤k) (hk:k+1<L.length):((bD L (FO a k)).set k (bD L (FO a k))[k+1]!).set (k+1) (bD L (FO a k))[k]! = bD L (FO a (k+1)):=by
 refine BD (by simp only [List.length_set,fZ]) fun i hi=>?_
 rw [List.length_set,List.length_set,fZ] at hi
 rw [BF (by rw [List.length_set,fZ];exact hi),BF (by rw [fZ];exact hi),iL (by omega),iL (by omega),iL hi,iL hi]
 have h1:=rY a k (k+1)
 have h2:=rY a k k
 have h3:=rY a k i
 have h4:=rY a (k+1) i
 by_cases e:k+1=i
 ·rw [if_pos e];congr 1;omega
 ·rw [if_neg e]
  by_cases e2:k=i
  ·rw [if_pos e2];congr 1;omega
  ·rw [if_neg e2];congr 1;omega
theorem PO {L:List α} {k m:Nat} (hk:0<k) (hm:k≤m) (hl:m<L.length):((bD L (zX k m)).set k (bD L (zX k m))[k - 1]!).set (k - 1) (bD L (zX k m))[k]! = bD L (zX (k - 1) m):=by
 refine BD (by simp only [List.length_set,fZ]) fun i hi=>?_
 rw [List.length_set,List.length_set,fZ] at hi
 rw [BF (by rw [List.length_set,fZ];exact hi),BF (by rw [fZ];exact hi),iL (by omega),iL (by omega),iL hi,iL hi]
 have h1:=nU k m (k - 1)
 have h2:=nU k m k
 have h3:=nU k m i
 have h4:=nU (k - 1) m i
 by_cases e:k - 1=i
 ·rw [if_pos e];congr 1;omega
 ·rw [if_neg e]
  by_cases e2:k=i
  ·rw [if_pos e2];congr 1;omega
  ·rw [if_neg e2];congr 1;omega
end
end Go.KB
namespace Go.KB
set_option linter.unusedVariables false
def lx (L0:List ah) (u v:Nat):Prop:=L0[u]!.piece<L0[v]!.piece∨(L0[u]!.piece=L0[v]!.piece∧u<v)
theorem PU {L0:List ah} {u v w:Nat} (h:lx L0 u v) (h':lx L0 v w):lx L0 u w:=by unfold lx at *;omega
def yK (L0:List ah) (π:Nat→Nat) (a b:Nat):Prop:=∀ i j,a≤i→i<j→j<b→lx L0 (π i) (π j)
structure MS (L0:List ah) (π:Nat→Nat) (a m b:Nat):Prop where
 s1:yK L0 π a m
 s2:yK L0 π m b
 tag:∀ i j,a≤i→i<m→m≤j→j<b→π i<π j
structure MR (L0:List ah) (π π':Nat→Nat) (a b:Nat):Prop where
 out:∀ k,¬(a≤k∧k<b)→π' k=π k
 so:yK L0 π' a b
 of:∀ k,a≤k→k<b→∃ i,a≤i∧i<b∧π' k=π i
theorem yK.le {L0:List ah} {π:Nat→Nat} {a b i j:Nat} (h:yK L0 π a b) (h1:a≤i) (h2:i≤j) (h3:j<b) {w:Nat} (hw:lx L0 (π j) w):lx L0 (π i) w:=by
 by_cases e:i=j
 ·subst e;exact hw
 ·exact PU (h i j h1 (by omega) h3) hw
theorem yK.ge {L0:List ah} {π:Nat→Nat} {a b i j:Nat} (h:yK L0 π a b) (h1:a≤i) (h2:i≤j) (h3:j<b) {w:Nat} (hw:lx L0 w (π i)):lx L0 w (π j):=by
 by_cases e:i=j
 ·subst e;exact hw
 ·exact PU hw (h i j h1 (by omega) h3)
theorem VB {L0:List ah} {π:Nat→Nat} {a m b e:Nat} (h:MS L0 π a m b) (hm:m=a+1) (hb:m≤b) (h1:m≤e) (h2:e≤b) (hl:m<e→L0[π (e - 1)]!.piece<L0[π a]!.piece) (hr:e<b→¬ L0[π e]!.piece<L0[π a]!.piece):MR L0 π (fun k=>π (FO a (e - 1) k)) a b:=by
  refine ⟨fun k hk=>?_,fun i j hi hij hj=>?_,fun k hk1 hk2=>⟨FO a (e - 1) k,?_,?_,rfl⟩⟩
  · have:=rY a (e - 1) k
    show π (FO a (e - 1) k)=π k
    congr 1;omega
  · show lx L0 (π (FO a (e - 1) i)) (π (FO a (e - 1) j))
    have ci:=rY a (e - 1) i
    have cj:=rY a (e - 1) j
    have hlast:m<e→lx L0 (π (e - 1)) (π a):=fun x=>.inl (hl x)
    have hfirst:e<b→lx L0 (π a) (π e):=fun x=>by
      have t:=h.tag a e (Nat.le_refl _) (by omega) (by omega) x
      have:=hr x
      unfold lx;omega
    by_cases ei:i<e - 1
    · have e1 : FO a (e - 1) i = i + 1 := by omega
      rw [e1]
      by_cases ej:j=e - 1
      · have e2 : FO a (e - 1) j = a := by omega
        rw [e2]
        exact h.s2.le (i:=i+1) (j:=e - 1) (by omega) (by omega) (by omega) (hlast (by omega))
      · have e2 : FO a (e - 1) j = if j < e - 1 then j + 1 else j := by split <;> omega
        rw [e2]
        split
        · exact h.s2 _ _ (by omega) (by omega) (by omega)
        · exact h.s2 _ _ (by omega) (by omega) (by omega)
    · by_cases ei2 : i = e - 1
      · have e1 : FO a (e - 1) i = a := by omega
        have e2:FO a (e - 1) j=j:=by omega
        rw [e1,e2]
        exact h.s2.ge (i:=e) (j:=j) (by omega) (by omega) hj (hfirst (by omega))
      · have e1 : FO a (e - 1) i = i := by omega
        have e2:FO a (e - 1) j=j:=by omega
        rw [e1,e2]
        exact h.s2 i j (by omega) hij hj
  · have:=rY a (e - 1) k;omega
  · have:=rY a (e - 1) k;omega
theorem PS {L0:List ah} {π:Nat→Nat} {a m b e:Nat} (h:MS L0 π a m b) (hm:b=m+1) (h1:a≤e) (h2:e≤m) (hl:a<e→¬ L0[π m]!.piece<L0[π (e - 1)]!.piece) (hr:e<m→L0[π m]!.piece<L0[π e]!.piece):MR L0 π (fun k=>π (zX e m k)) a b:=by
  refine ⟨fun k hk=>?_,fun i j hi hij hj=>?_,fun k hk1 hk2=>⟨zX e m k,?_,?_,rfl⟩⟩
  · have:=nU e m k
    show π (zX e m k)=π k
    congr 1;omega
  · show lx L0 (π (zX e m i)) (π (zX e m j))
    have ci:=nU e m i
    have cj:=nU e m j
    have hlast:a<e→lx L0 (π (e - 1)) (π m):=fun x=>by
      have t:=h.tag (e - 1) m (by omega) (by omega) (Nat.le_refl _) (by omega)
      have:=hl x
      unfold lx;omega
    have hfirst:e<m→lx L0 (π m) (π e):=fun x=>.inl (hr x)
    by_cases ei:i<e
    · have e1 : zX e m i = i := by omega
      rw [e1]
      by_cases ej:j=e
      · have e2 : zX e m j = m := by omega
        rw [e2]
        exact h.s1.le (i:=i) (j:=e - 1) hi (by omega) (by omega) (hlast (by omega))
      · have e2 : zX e m j = if j < e then j else j - 1 := by split <;> omega
        rw [e2]
        split
        · exact h.s1 _ _ hi hij (by omega)
        · exact h.s1 _ _ hi (by omega) (by omega)
    · by_cases ei2 : i = e
      · have e1 : zX e m i = m := by omega
        have e2:zX e m j=j - 1:=by omega
        rw [e1,e2]
        exact h.s1.ge (i:=e) (j:=j - 1) h1 (by omega) (by omega) (hfirst (by omega))
      · have e1 : zX e m i = i - 1 := by omega
        have e2:zX e m j=j - 1:=by omega
        rw [e1,e2]
        exact h.s1 _ _ (by omega) (by omega) (by omega)
  · have:=nU e m k;omega
  · have:=nU e m k;omega
theorem halves {L0:List ah} {π:Nat→Nat} {a m b e d mid:Nat} (h:MS L0 π a m b) (h1:a≤e) (h2:e≤m) (h3:m≤d) (h4:d≤b) (hmid:e+(d - m)=mid) (hA:a<e→d<b→¬ L0[π d]!.piece<L0[π (e - 1)]!.piece) (hB:e<m→m<d→L0[π (d - 1)]!.piece<L0[π e]!.piece) :
    MS L0 (fun k=>π (su e m d k)) a e mid∧MS L0 (fun k=>π (su e m d k)) mid d b∧∀ i j,a≤i→i<mid→mid≤j→j<b→lx L0 (π (su e m d i)) (π (su e m d j)):=by
  have c:=qX e m d
  have r1:∀ k,k<e→su e m d k=k:=fun k hk=>by have:=c k;omega
  have r2:∀ k,e≤k→k<mid→su e m d k=m+(k - e):=fun k hk hk2=>by have:=c k;omega
  have r3:∀ k,mid≤k→k<d→su e m d k=e+(k - mid):=fun k hk hk2=>by have:=c k;omega
  have r4:∀ k,d≤k→su e m d k=k:=fun k hk=>by have:=c k;omega
  refine ⟨⟨fun i j x y z=>?_,fun i j x y z=>?_,fun i j x y z w=>?_⟩,⟨fun i j x y z=>?_,fun i j x y z=>?_,fun i j x y z w=>?_⟩,fun i j x y z w=>?_⟩
  · show lx L0 (π (su e m d i)) (π (su e m d j))
    rw [r1 i (by omega),r1 j z];exact h.s1 i j x y (by omega)
  · show lx L0 (π (su e m d i)) (π (su e m d j))
    rw [r2 i x (by omega),r2 j (by omega) z];exact h.s2 _ _ (by omega) (by omega) (by omega)
  · show π (su e m d i)<π (su e m d j)
    rw [r1 i y,r2 j z w];exact h.tag _ _ x (by omega) (by omega) (by omega)
  · show lx L0 (π (su e m d i)) (π (su e m d j))
    rw [r3 i x (by omega),r3 j (by omega) z];exact h.s1 _ _ (by omega) (by omega) (by omega)
  · show lx L0 (π (su e m d i)) (π (su e m d j))
    rw [r4 i x,r4 j (by omega)];exact h.s2 _ _ (by omega) y z
  · show π (su e m d i)<π (su e m d j)
    rw [r3 i x y,r4 j z];exact h.tag _ _ (by omega) (by omega) (by omega) w
  · by_cases ei : i < e
    · rw [r1 i ei]
      by_cases ej:j<d
      · rw [r3 j z ej];exact h.s1 _ _ x (by omega) (by omega)
      · rw [r4 j (by omega)]
        have t:=h.tag (e - 1) d (by omega) (by omega) h3 (by omega)
        have hx:lx L0 (π (e - 1)) (π d):=by
          have:=hA (by omega) (by omega)
          unfold lx;omega
        exact h.s1.le (i:=i) (j:=e - 1) x (by omega) (by omega) (h.s2.ge (i:=d) (j:=j) h3 (by omega) w hx)
    · rw [r2 i (by omega) y]
      by_cases ej:j<d
      · rw [r3 j z ej]
        have hx:lx L0 (π (d - 1)) (π e):=.inl (hB (by omega) (by omega))
        exact h.s2.le (i:=m+(i - e)) (j:=d - 1) (by omega) (by omega) (by omega) (h.s1.ge (i:=e) (j:=e+(j - mid)) h1 (by omega) (by omega) hx)
      · rw [r4 j (by omega)];exact h.s2 _ _ (by omega) (by omega) w
theorem MR.join {L0:List ah} {π1 π2 π3:Nat→Nat} {a mid b:Nat} (h1:MR L0 π1 π2 a mid) (h2:MR L0 π2 π3 mid b) (ha:a≤mid) (hb:mid≤b) (hx:∀ i j,a≤i→i<mid→mid≤j→j<b→lx L0 (π1 i) (π1 j)):MR L0 π1 π3 a b:=by
  have e2:∀ k,mid≤k→π2 k=π1 k:=fun k hk=>h1.out k (by omega)
  have e3:∀ k,k<mid→π3 k=π2 k:=fun k hk=>h2.out k (by omega)
  refine ⟨fun k hk=>?_,fun i j x y z=>?_,fun k x y=>?_⟩
  · rw [h2.out k (by omega),h1.out k (by omega)]
  · by_cases hj : j < mid
    · rw [e3 i (by omega),e3 j hj];exact h1.so i j x y hj
    · by_cases hi : mid ≤ i
      · exact h2.so i j hi y z
      · obtain ⟨i', i1, i2, i3⟩ := h1.of i x (by omega)
        obtain ⟨j',j1,j2,j3⟩:=h2.of j (by omega) z
        rw [e3 i (by omega),i3,j3,e2 j' j1]
        exact hx i' j' i1 i2 j1 j2
  · by_cases hk : k < mid
    · obtain ⟨i,i1,i2,i3⟩:=h1.of k x hk
      exact ⟨i,i1,by omega,by rw [e3 k hk,i3]⟩
    · obtain ⟨j, j1, j2, j3⟩ := h2.of k (by omega) y
      exact ⟨j,by omega,j2,by rw [j3,e2 j j1]⟩
theorem MR.same {L0:List ah} {π:Nat→Nat} {a m b:Nat} (h:MS L0 π a m b) (e:m≤a∨b≤m):MR L0 π π a b:=by
 refine ⟨fun _ _=>rfl,fun i j x y z=>?_,fun k x y=>⟨k,x,y,rfl⟩⟩
 rcases e with e | e
 ·exact h.s2 i j (by omega) y z
 ·exact h.s1 i j x y (by omega)
end Go.KB
namespace Go.KB
set_option linter.unusedVariables false
section
variable {L0:List ah} {φ:GR} {c:ah→ah→Int} (hφ:∀ x y,φ x y=some (c x y)) (hc:∀ x y,decide (c x y<0)=decide (x.piece<y.piece)) (hL:L0.length<1000000)
include hφ hc hL in
theorem Xt {N:Nat} (hN:2000000≤N) {rc:List ah→Int→Int→Int→GR→Option (List ah)} {π:Nat→Nat} {a m b:Nat} (hm:m=a+1) (h2:m<b) (h3:b≤L0.length) (h:MS L0 π a m b) :
  ∃ π',dA N rc (bD L0 π) (a:Int) (m:Int) (b:Int) φ=some (bD L0 π')∧MR L0 π π' a b:=by
 have hl:=fZ L0 π
 obtain ⟨e,he,e1,e2,e3,e4⟩:=FB (f:=gB N (bD L0 π) (a:Int) φ) (T:=fun k=>decide (L0[π k]!.piece<L0[π a]!.piece)) (lo:=m) (hi:=b) (fun s r q1 q2 q3=>by
  unfold gB
  simp only []
  rw [aW,dT (by omega),iP,Ju (by omega),bS,jd (n:=(((s+r) / 2:Nat):Int)) (by omega) (by omega),jK (by omega),bS,jK (by omega),bS,hφ,bS,aW,hc,iL (by omega),iL (by omega),lY (by omega)]
  cases decide (L0[π ((s+r) / 2)]!.piece<L0[π a]!.piece) <;> rfl) (fun s=>by
  unfold gB
  simp only []
  rw [aW,dF (by omega),iT]) (b - m) m b (Nat.le_refl _) (Nat.le_refl _) (by omega) (Nat.le_refl _) (fun q=>absurd q (Nat.lt_irrefl _)) (fun q=>absurd q (Nat.lt_irrefl _)) N (by omega)
 have hsh:aX (dK N (e:Int)) N (bD L0 π,(a:Int))=some (bD (bD L0 π) (FO a (e - 1))):=by
  have key:∀ (w k M:Nat),k+w=e - 1→a≤k→w<M→aX (dK N (e:Int)) M (bD (bD L0 π) (FO a k),(k:Int))=some (bD (bD L0 π) (FO a (e - 1))):=by
   intro w
   induction w with
   | zero =>
    intro k M q1 q2 q3
    obtain ⟨M,rfl⟩:∃ x,M=x+1:=⟨M - 1,by omega⟩
    obtain rfl:k=e - 1:=by omega
    have:dK N (e:Int) (bD (bD L0 π) (FO a (e - 1)),((e - 1:Nat):Int))=some (.inr (bD (bD L0 π) (FO a (e - 1)))):=by
     unfold dK
     simp only []
     rw [jd (n:=(e:Int) - 1) (by omega) (by omega),aW,dF (by omega),iT]
    rw [aX,this]
   | succ w ih =>
    intro k M q1 q2 q3
    obtain ⟨M,rfl⟩:∃ x,M=x+1:=⟨M - 1,by omega⟩
    have hll:=fZ (bD L0 π) (FO a k)
    have:dK N (e:Int) (bD (bD L0 π) (FO a k),(k:Int))=some (.inl (bD (bD L0 π) (FO a (k+1)),((k+1:Nat):Int))):=by
     unfold dK
     simp only []
     rw [jd (n:=(e:Int) - 1) (by omega) (by omega),aW,dT (by omega),iP,lY (by omega),jK (by omega),bS,jK (by omega),bS,bS,Int.toNat_natCast,Int.toNat_natCast,jK (by rw [List.length_set];omega),bS,VA q2 (by omega)]
    rw [aX,this]
    exact ih (k+1) M (by omega) (by omega) (by omega)
  have h0:bD (bD L0 π) (FO a a)=bD L0 π:=by
   rw [sG (g:=fun k=>k) fun k hk=>?_,DY]
   have:=rY a a k
   omega
  have:=key (e - 1 - a) a N (by omega) (Nat.le_refl _) (by omega)
  rw [h0] at this
  exact this
 refine ⟨fun k=>π (FO a (e - 1) k),?_,VB h hm (by omega) e1 e2 (fun q=>by simpa using e3 q) (fun q=>by simpa using e4 q)⟩
 unfold dA
 rw [jd (n:=(m:Int) - (a:Int)) (by omega) (by omega),lK,dT (by omega),iP,he,bS,hsh,bS,x9 fun k hk=>?_]
 have:=rY a (e - 1) k
 omega
include hφ hc hL in
theorem Vx {N:Nat} (hN:2000000≤N) {rc:List ah→Int→Int→Int→GR→Option (List ah)} {π:Nat→Nat} {a m b:Nat} (ha:a<m) (hm1:m≠a+1) (hm:b=m+1) (h3:b≤L0.length) (h:MS L0 π a m b) :
  ∃ π',dA N rc (bD L0 π) (a:Int) (m:Int) (b:Int) φ=some (bD L0 π')∧MR L0 π π' a b:=by
 have hl:=fZ L0 π
 obtain ⟨e,he,e1,e2,e3,e4⟩:=FB (f:=gG N (bD L0 π) (m:Int) φ) (T:=fun k=>!decide (L0[π m]!.piece<L0[π k]!.piece)) (lo:=a) (hi:=m) (fun s r q1 q2 q3=>by
  unfold gG
  simp only []
  rw [aW,dT (by omega),iP,Ju (by omega),bS,jK (by omega),bS,jd (n:=(((s+r) / 2:Nat):Int)) (by omega) (by omega),jK (by omega),bS,hφ,bS,aW,hc,iL (by omega),iL (by omega),lY (by omega)]
  cases decide (L0[π m]!.piece<L0[π ((s+r) / 2)]!.piece) <;> rfl) (fun s=>by
  unfold gG
  simp only []
  rw [aW,dF (by omega),iT]) (m - a) a m (Nat.le_refl _) (Nat.le_refl _) (by omega) (Nat.le_refl _) (fun q=>absurd q (Nat.lt_irrefl _)) (fun q=>absurd q (Nat.lt_irrefl _)) N (by omega)
 have hsh:aX (dL N (e:Int)) N (bD L0 π,(m:Int))=some (bD (bD L0 π) (zX e m)):=by
  have key:∀ (w k M:Nat),k=e+w→k≤m→w<M→aX (dL N (e:Int)) M (bD (bD L0 π) (zX k m),(k:Int))=some (bD (bD L0 π) (zX e m)):=by
   intro w
   induction w with
   | zero =>
    intro k M q1 q2 q3
    obtain ⟨M,rfl⟩:∃ x,M=x+1:=⟨M - 1,by omega⟩
    obtain rfl:k=e:=by omega
    have:dL N (k:Int) (bD (bD L0 π) (zX k m),(k:Int))=some (.inr (bD (bD L0 π) (zX k m))):=by
     unfold dL
     simp only []
     rw [fE,dF (by omega),iT]
    rw [aX,this]
   | succ w ih =>
    intro k M q1 q2 q3
    obtain ⟨M,rfl⟩:∃ x,M=x+1:=⟨M - 1,by omega⟩
    have hll:=fZ (bD L0 π) (zX k m)
    have:dL N (e:Int) (bD (bD L0 π) (zX k m),(k:Int))=some (.inl (bD (bD L0 π) (zX (k - 1) m),((k - 1:Nat):Int))):=by
     unfold dL
     simp only []
     rw [fE,dT (by omega),iP,show (k:Int) - 1=((k - 1:Nat):Int) by omega,jd (n:=((k - 1:Nat):Int)) (by omega) (by omega),jK (by omega),bS,jK (by omega),bS,bS,Int.toNat_natCast,Int.toNat_natCast,jK (by rw [List.length_set];omega),bS,PO (by omega) q2 (by omega)]
    rw [aX,this]
    exact ih (k - 1) M (by omega) (by omega) (by omega)
  have h0:bD (bD L0 π) (zX m m)=bD L0 π:=by
   rw [sG (g:=fun k=>k) fun k hk=>?_,DY]
   have:=nU m m k
   omega
  have:=key (m - e) m N (by omega) (Nat.le_refl _) (by omega)
  rw [h0] at this
  exact this
 refine ⟨fun k=>π (zX e m k),?_,PS h hm e1 e2 (fun q=>by simpa using e3 q) (fun q=>by simpa using e4 q)⟩
 unfold dA
 rw [jd (n:=(m:Int) - (a:Int)) (by omega) (by omega),lK,dF (by omega),iT,jd (n:=(b:Int) - (m:Int)) (by omega) (by omega),lK,dT (by omega),iP,he,bS,hsh,bS,x9 fun k hk=>?_]
 have:=nU e m k
 omega
end
end Go.KB
