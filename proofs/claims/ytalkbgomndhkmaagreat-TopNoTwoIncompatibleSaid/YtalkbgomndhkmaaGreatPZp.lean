/- Plain laws of chapter 7: why a permit is not opened. Plain laws of chapter 7: the people in the spaces, in the order of their names. Plain laws of chapter 7: what the program's office does. Plain laws of chapter 7: each event in the program's office. Plain laws of chapter 7: the program's office does what the office by names does. Plain laws of chapter 7: the examples. Plain laws of chapter 7: what the statements share. No condition. -/
import Derived.Test.YtalkbgomndhkmaaGreatPZn
import Derived.Test.YtalkbgomndhkmaaGreatGPure
import Derived.ProofKit
namespace Go.KB
set_option linter.unusedVariables false
def PD {S R:Type} (Y:S→R→Option (S×Bool)):List R→S→Option S
 | [],s=>some s
 | r :: l,s=>(Y s r).bind fun v=>bif v.2 then PD Y l v.1 else some v.1
theorem yloop {S:Type} {N:Nat} {Y:S→bW→Option (S×Bool)} {l:List bW} {s:S} (hl:l.length<1000) (hN:1000000≤N):((dB (fM N Y l) N (0,s)).bind fun NY=>Sum.elim (fun l17=>some l17) (fun Ul=>some Ul) NY)=PD Y (l.filter fun r=>!r.Names.isEmpty) s:=by
 have key:∀ k i s,i+k=l.length→∀ M,k<M→((dB (fM N Y l) M ((i:Int),s)).bind fun NY=>Sum.elim (fun l17=>some l17) (fun Ul=>some Ul) NY)=PD Y ((l.drop i).filter fun r=>!r.Names.isEmpty) s:=by
  intro k
  induction k with
  | zero =>
   intro i s hi M hM
   obtain ⟨M,rfl⟩:∃ m,M=m+1:=⟨M - 1,by omega⟩
   have:i=l.length:=by omega
   subst this
   have e:fM N Y l ((l.length:Int),s)=some (.inr (Sum.inl s)):=by
    unfold fM
    simp only []
    rw [bT,dF (by omega),lI]
   simp only [dB,e,List.drop_length];rfl
  | succ k ih =>
   intro i s hi M hM
   obtain ⟨M,rfl⟩:∃ m,M=m+1:=⟨M - 1,by omega⟩
   have hil:i<l.length:=by omega
   have e:fM N Y l ((i:Int),s)=bif !l[i].Names.isEmpty then (Y s l[i]).bind (fun v=>bif v.2 then some (.inl (((i+1:Nat):Int),v.1)) else some (.inr (.inr v.1))) else some (.inl (((i+1:Nat):Int),s)):=by
    unfold fM
    simp only []
    rw [bT,dT (by omega),nC,iU hil,bS,gt0,qy (by omega)]
    cases l[i].Names.isEmpty with
    | true=>rfl
    | false =>
     simp only [Bool.not_false,nC,Bool.true_and]
     congr 1
     funext v
     cases v.2 <;> rfl
   simp only [dB,e]
   rw [drop_at hil,List.filter_cons]
   cases hn:l[i].Names.isEmpty with
   | true=>simp only [Bool.not_true,lI];exact ih (i+1) s (by omega) M (by omega)
   | false =>
    simp only [Bool.not_false,nC,if_true,PD]
    cases hy:Y s l[i] with
    | none=>rfl
    | some v =>
     simp only [bS]
     cases hv:v.2 with
     | false=>rfl
     | true=>simp only [nC];exact ih (i+1) v.1 (by omega) M (by omega)
 simpa using key l.length 0 s (by omega) N (by omega)
theorem EU {p:GPermitPlan} {A:AO} {N:Nat} {f:(List Str×Int)→Option ((List Str×Int) ⊕ List Str)} {so:aG→Bool} (hp:EP p) (hN:1000000≤N) (hf:∀ (i:Nat) (hi:i<p.aB.length) (acc:List Str),acc.length<1000000→f (acc,(i:Int))=bif decide (stA A p.aB[i].Name=2)&&so p.aB[i] then ((app acc [p.aB[i].Name]).bind fun v=>some (.inl (v,((i+1:Nat):Int)))) else some (.inl (acc,((i+1:Nat):Int)))) (he:∀ acc,f (acc,(p.aB.length:Int))=some (.inr acc)):dB f N ([],0)=some (kD p A so):=by
 have hm:=hp.m
 have hlim:lim ≥ 10000000:=by decide
 rw [Sz (f:=f) p.aB [] (fun x=>decide (stA A x.Name=2)&&so x) (fun x=>x.Name) (fun a i=>(a,i)) (fun a=>a) (fun i hi acc hacc=>?_) he (by omega)]
 ·rfl
 ·simp only [List.length_nil] at hacc
  rw [hf i hi acc (by omega)]
  cases (decide (stA A p.aB[i].Name=2)&&so p.aB[i]) with
  | false=>rfl
  | true=>simp only [nC];rw [FN (by simp only [List.length_singleton];omega)];rfl
section
variable {N:Nat} {p:GPermitPlan} {A:AO} {g:af} {st:List (Str×ah)} {lH:List (Str×ai)} {pe:List (Str×Str)} (hp:EP p) (ho:EX p) (hN:1000000≤N) (h:RelA p A g st lH pe) (b:KC A)
include hp hN h
theorem V5 {x:aG}:iP N g st lH pe x=some (kD p A fun y=>sZ p y x):=by
 have hm:=hp.m
 unfold iP
 rw [EU (f:=fZ N g st lH pe x) (A:=A) (so:=fun y=>sZ p y x) hp hN (fun i hi acc hacc=>?_) (fun acc=>?_)]
 ·rfl
 ·unfold fZ
  simp only []
  rw [h.b.plan,bT,dT (by omega),nC,iU hi,bS,FU hN h.st (ET hi) (by decide),bS,qy (by omega)]
  have hc:([2]:List Int).contains (stA A p.aB[i].Name)=decide (stA A p.aB[i].Name=2):=by rw [Bool.eq_iff_iff];simp
  have hq:lu N g st lH pe p.aB[i] x=some (sZ p p.aB[i] x):=by
   unfold lu
   rw [h.b.plan,Iu hp hN];rfl
  rw [hc,hq]
  cases decide (stA A p.aB[i].Name=2) with
  | false=>rfl
  | true=>rfl
 ·unfold fZ
  simp only []
  rw [h.b.plan,bT,dF (by omega),lI]
end
end Go.KB
namespace Go.KB
set_option linter.unusedVariables false
theorem Uc (a b c:Str) (h1:a≤b) (h2:b≤c):a≤c:=List.le_trans h1 h2
theorem Ud (a b:Str):a≤b∨b≤a:=List.le_total a b
theorem NT (a b:Str) (h1:a≤b) (h2:b≤a):a=b:=Std.Antisymm.antisymm (r:=(· ≤ ·)) a b h1 h2
theorem Zo {a b:Str} (h:a<b):a≤b:=List.le_of_lt h
theorem NU {l m:List Str} (hp:l.Perm m) (hs:m.Pairwise (fun a b=>a<b)):Du l=m:=by
 unfold Du
 refine List.Perm.eq_of_pairwise (le:=fun a b:Str=>a≤b) (fun a b _ _ h1 h2=>NT a b h1 h2) ?_ (hs.imp fun h=>Zo h) ((List.mergeSort_perm _ _).trans hp)
 have:=List.pairwise_mergeSort (le:=fun x y:Str=>decide (x≤y)) (fun a b c h1 h2=>decide_eq_true (Uc a b c (of_decide_eq_true h1) (of_decide_eq_true h2))) (fun a b=>by
  rcases Ud a b with h | h <;> simp [h]) l
 exact this.imp fun h=>of_decide_eq_true h
theorem Ue {f:List Str→(Str×Str)→Option (List Str)} {so:Str→Bool} (π:List (Str×Str)) (hf:∀ acc q,q ∈ π→acc.length<1000000→f acc q=some (bif so q.2 then acc ++ [q.1] else acc)):∀ acc,acc.length+π.length<1000000→Hf f π acc=some (acc ++ (π.filter fun q=>so q.2).map fun q=>q.1):=by
 induction π with
 | nil=>intro acc _;simp [Hf]
 | cons q r ih =>
  intro acc h
  simp only [List.length_cons] at h
  unfold Hf
  rw [hf acc q List.mem_cons_self (by omega),bS,ih (fun acc q hq=>hf acc q (List.mem_cons_of_mem _ hq)) _ (by cases so q.2 <;> simp <;> omega),List.filter_cons]
  cases so q.2 <;> simp
theorem PE {A : AO} {pe : List (Str × Str)} {f : List Str → (Str × Str) → Option (List Str)} {so : Str → Bool} (hpe : pe.Perm A.pp) (hpp : A.pp.Pairwise (fun a b => a.1 < b.1)) (hl : A.pp.length < 1000000) (hf : ∀ acc q, q ∈ pe → acc.length < 1000000 → f acc q = some (bif so q.2 then acc ++ [q.1] else acc)) :
    (FI pe fun q=>(Hf f q []).bind fun s=>(L6 s).bind fun v=>some v)=some (Ak A so):=by
  refine Tt fun π hπ=>?_
  have hp:π.Perm A.pp:=hπ.trans hpe
  have hlen:π.length=A.pp.length:=hp.length_eq
  rw [Ue (so:=so) π (fun acc q hq h=>hf acc q (hπ.mem_iff.1 hq) h) [] (by simp;omega),bS,List.nil_append]
  have hs:L6 ((π.filter fun q=>so q.2).map fun q=>q.1)=some (Ak A so):=by
    unfold L6
    have h1:((π.filter fun q=>so q.2).map fun q=>q.1).length≤1000000:=by
      rw [List.length_map];have:=List.length_filter_le (fun q:Str×Str=>so q.2) π;omega
    rw [Nat.ble_eq_true_of_le h1,nC]
    congr 1
    refine NU ((hp.filter _).map _) ?_
    unfold Ak
    rw [List.pairwise_map]
    exact List.Pairwise.filter _ hpp
  rw [hs];rfl
end Go.KB
namespace Go.KB
set_option linter.unusedVariables false
theorem ne0 {α:Type} {l:List α}:aV .eql (List.length l:Int) 0=l.isEmpty:=by
 rw [qR]
 cases l with
 | nil=>rfl
 | cons x r=>simp;omega
def V6 (R:AO×List Str×Int) (a b:List (Str×ah)):List (Str×ah)×aj:=(bif decide (R.2.2=0) then a else b,⟨R.2.1,R.2.2⟩)
theorem PG {A:AO} {e:Int} {l:List Str} {a b:List (Str×ah)} (he:e≠0):V6 (vT A e l) a b=(b,⟨l,e⟩):=by
 show ((bif decide (e=0) then a else b),(⟨l,e⟩:aj))=_
 rw [dF he];rfl
theorem QW {l:List bW} {g:aj→bW→Option (aj×Option Nat)} (hg:∀ s r,g s r=some (⟨r.Names,r.Err⟩,some 0)):PD (yl g 1) l ((⟨[],0⟩:aj),none)=some (match l with | []=>(⟨[],0⟩,none) | r :: _=>(⟨r.Names,r.Err⟩,some 0)):=by
 cases l with
 | nil=>rfl
 | cons r l =>
  unfold PD yl
  simp only [hg]
  rfl
theorem SB {p:GPermitPlan} {A:AO} {x:aG}:∀ r ∈ Kq p A x,r.Err≠0:=by
 intro r hr
 unfold Kq at hr
 rcases List.mem_append.1 hr with hr | hr
 ·cases hd:decide (A.now<x.From) with
  | false=>rw [hd] at hr;cases hr
  | true=>rw [hd,nC,List.mem_singleton] at hr;subst hr;decide
 ·have hr:=(List.mem_filter.1 hr).1
  rcases List.mem_append.1 hr with hr | hr
  ·simp only [List.mem_cons,List.not_mem_nil,or_false] at hr
   rcases hr with rfl | rfl | rfl <;> simp
  ·cases hd:decide (x.Kind=3) with
   | false=>rw [hd] at hr;cases hr
   | true=>rw [hd,nC,List.mem_singleton] at hr;subst hr;simp
section
variable {N:Nat} {p:GPermitPlan} {A:AO} {g:af} {st:List (Str×ah)} {lH:List (Str×ai)} {pe:List (Str×Str)} (hp:EP p) (ho:EX p) (hN:1000000≤N) (h:RelA p A g st lH pe) (b:KC A) (hpp:A.pp.Pairwise (fun a b=>a.1<b.1))
include hp hN h
theorem Jd {φ:aG→Option Bool} {so:aG→Bool} (hφ:∀ y ∈ p.aB,φ y=some (so y)):fO N g st lH pe φ=some (kD p A so):=by
 have hm:=hp.m
 unfold fO
 rw [EU (f:=jB N g st lH pe φ) (A:=A) (so:=so) hp hN (fun i hi acc hacc=>?_) (fun acc=>?_)]
 ·rfl
 ·unfold jB
  simp only []
  rw [h.b.plan,bT,dT (by omega),nC,iU hi,bS,FU hN h.st (ET hi) (by decide),bS,qy (by omega)]
  have hc:([2]:List Int).contains (stA A p.aB[i].Name)=decide (stA A p.aB[i].Name=2):=by rw [Bool.eq_iff_iff];simp
  rw [hc,hφ _ (List.getElem_mem hi)]
  cases decide (stA A p.aB[i].Name=2) <;> rfl
 ·unfold jB
  simp only []
  rw [h.b.plan,bT,dF (by omega),lI]
theorem Uf {s:Str}:nJ N g st lH pe s=some (zD p A s):=by
 unfold nJ zD
 rw [Jd hp hN h (so:=fun y=>decide (y.Kind=1)&&decide (y.Space=s)) (fun y _=>by unfold kK;rw [qR,qZ]),bS,gt0]
include b hpp
omit hp hN in
theorem QX {φ:Str→Option Bool} {so:Str→Bool} (hφ:∀ s,φ s=some (so s)):jZ N g st lH pe φ=some (Ak A so):=by
 have hlim:lim ≥ 10000000:=by decide
 unfold jZ
 refine PE (f:=lJ N φ) h.pe hpp b.pl fun acc q _ hacc=>?_
 unfold lJ
 rw [hφ,bS]
 cases so q.2 with
 | false=>rfl
 | true=>rw [nC,nC,FN (by simp only [List.length_singleton];omega)];rfl
theorem PI {x:aG}:iD N g st lH pe x=some (Ak A fun s=>decide (oN p s x.Space≤1)):=by
 have hlim:lim ≥ 10000000:=by decide
 unfold iD
 refine PE (f:=gK N g st lH x) (so:=fun s=>decide (oN p s x.Space≤1)) h.pe hpp b.pl fun acc q _ hacc=>?_
 unfold gK lX
 rw [h.b.plan,GN hp hN,bS,bS,xI]
 cases decide (oN p q.2 x.Space≤1) with
 | false=>rfl
 | true=>rw [nC,nC,FN (by simp only [List.length_singleton];omega)];rfl
include ho
theorem QY {S:Type} {Y:S→bW→Option (S×Bool)} {y0:S} {x:aG} (hx:x ∈ p.aB):jM N Y y0 g st lH pe x=PD Y (Kq p A x) y0:=by
 have hlim:lim ≥ 10000000:=by decide
 unfold jM Kq
 rw [bT,h.b.now,Iy hp hN h.st (hp.l _ hx) (fun l hl=>(ho.lk _ hx l hl).1),V5 hp hN h,KD hp hN h.b b,PI hp hN h b hpp,qR]
 simp only [bS]
 have hl:((bif decide (x.Kind=3) then ((app [(⟨18,EY A x⟩:bW),(⟨20,kD p A fun y=>sZ p y x⟩:bW),(⟨21,DR p A x⟩:bW)] [(⟨17,Ak A fun s=>decide (oN p s x.Space≤1)⟩:bW)]).bind fun v6=>some v6) else (some [(⟨18,EY A x⟩:bW),(⟨20,kD p A fun y=>sZ p y x⟩:bW),(⟨21,DR p A x⟩:bW)])):Option (List bW))=some ([(⟨18,EY A x⟩:bW),(⟨20,kD p A (fun y=>sZ p y x)⟩:bW),(⟨21,DR p A x⟩:bW)] ++ (bif decide (x.Kind=3) then [(⟨17,Ak A (fun s=>decide (oN p s x.Space≤1))⟩:bW)] else [])):=by
  cases decide (x.Kind=3) with
  | false=>rfl
  | true=>rw [nC,FN (by simp only [List.length_cons,List.length_nil];omega)];rfl
 rw [hl]
 simp only [bS]
 have hlen:([(⟨18,EY A x⟩:bW),(⟨20,kD p A (fun y=>sZ p y x)⟩:bW),(⟨21,DR p A x⟩:bW)] ++ (bif decide (x.Kind=3) then [(⟨17,Ak A (fun s=>decide (oN p s x.Space≤1))⟩:bW)] else [])).length<1000:=by
  cases decide (x.Kind=3) <;> simp
 simp only [yloop hlen hN]
 cases hd:decide (A.now<x.From) with
 | false=>simp only [lI,bS,Bool.false_and,List.nil_append]
 | true =>
  simp only [nC,Bool.true_and,List.singleton_append,PD]
  congr 1
  funext v
  cases v.2 <;> rfl
theorem V7 {x:GEvent} (hh:kH p x.Name=true):lZ N g st lH pe x=some (V6 (Bv p A x) (oZ st x.Name { A.es x.Name with state:=2 }) st):=by
 have hm:=hp.m
 unfold lZ Bv
 rw [Am (by omega),bS,qZ,h.st.get _ hh]
 cases kL x.Person with
 | false=>rfl
 | true =>
  cases decide (x.Person=(A.es x.Name).Gi) with
  | true=>rfl
  | false =>
   simp only [Bool.not_true,lI]
   rw [h.b.plan,yS (by omega) hN,bS]
   unfold pI
   rw [bS]
   show ((jM N (yl (iK N) 1) ((⟨[],0⟩:aj),none) g st lH pe (qo p x.Name)).bind _)=_
   rw [QY hp ho hN h b hpp (uP hh).1,QW (g:=iK N) (fun s r=>rfl),bS]
   have hw:=SB (p:=p) (A:=A) (x:=qo p x.Name)
   cases hwy:Kq p A (qo p x.Name) with
   | nil =>
    simp only [G7]
    unfold dP
    rw [h.st.get _ hh];rfl
   | cons r l =>
    have h0:r.Err≠0:=hw r (by rw [hwy];exact List.mem_cons_self)
    show (bif decide True then some (st,(⟨r.Names,r.Err⟩:aj)) else none)=some (V6 (vT A r.Err r.Names) _ st)
    rw [PG h0];rfl
omit ho in
theorem Ug {x:GEvent} (hh:kH p x.Name=true):lN N g st lH pe x=some (V6 (ER p A x) (oZ st x.Name { A.es x.Name with state:=4 }) st):=by
  have hm:=hp.m
  have hs:=hp.s
  obtain ⟨hy,hyn⟩:=uP hh
  have hb:dP N g st lH pe x.Name 4=some (oZ st x.Name { A.es x.Name with state:=4 }):=by
    unfold dP;rw [h.st.get _ hh]
  unfold lN ER
  rw [h.b.plan,yS (by omega) hN,bS]
  show ((iY N p (qo p x.Name).Space).bind fun v2=>_)=_
  rw [wX (by omega) hN,bS]
  simp only []
  have e1:fO N g st lH pe (fun y0=>jf N y0 (qo p x.Name))=some (kD p A (fun z=>GU z.Locks (qo p x.Name).Name)):=Jd hp hN h fun y hy=>by
    unfold jf;rw [GI (Nat.lt_trans (hp.l y hy) (by decide)) hN];rfl
  have e2:fO N g st lH pe (fun y0=>jg N y0 (qo p x.Name))=some (kD p A (fun z=>decide (z.Kind=1)&&decide (z.Space=(qo p x.Name).Space) && !decide (z.Name=(qo p x.Name).Name))):=Jd hp hN h fun y hy=>by
    unfold jg;rw [qR,qZ,VR]
  have e3:jZ N g st lH pe (fun y0=>jh N y0 (qo p x.Name))=some (Ak A (fun s=>decide (s=(qo p x.Name).Space))):=QX h b hpp fun s=>by
    unfold jh;rw [qZ]
  have e4:dJ N g st lH pe (qo p x.Name).Name [2]=some (decide (stA A (qo p x.Name).Name=2)):=by
    rw [FU hN h.st (by rw [hyn];exact hh) (by decide)]
    congr 1;rw [Bool.eq_iff_iff];simp
  show (((bif aV .eql (qo p x.Name).Kind 5 then ((fO N g st lH pe (fun y0=>jf N y0 (qo p x.Name))).bind fun v3=>bif (aV .gtr (List.length v3:Int) 0) then ((jm N 20 v3).bind fun v4=>some (Sum.inr v4)) else (some (Sum.inl (⟨[],0⟩:aj)))) else ((bif aV .eql (qo p x.Name).Kind 1 then (dJ N g st lH pe (qo p x.Name).Name [2]) else some false).bind fun v6=>bif ((aV .eql (qo p x.Name).Kind 1&&v6)&&(xQ p (qo p x.Name).Space).dX) then ((fO N g st lH pe (fun y0=>jg N y0 (qo p x.Name))).bind fun v7=>(jZ N g st lH pe (fun y0=>jh N y0 (qo p x.Name))).bind fun v8=>bif (aV .eql (List.length v7:Int) 0&&aV .gtr (List.length v8:Int) 0) then ((jm N 21 v8).bind fun v9=>some (Sum.inr v9)) else (some (Sum.inl (⟨[],0⟩:aj)))) else (some (Sum.inl (⟨[],0⟩:aj))))):Option (aj ⊕ aj)).bind fun Wp=>Sum.elim (fun l15=>(dP N g st lH pe x.Name 4).bind fun v17=>some (v17,(⟨[],0⟩:aj))) (fun r16=>some (st,r16)) Wp)=_
  rw [e1,e2,e3,e4,hb]
  simp only [bS,gt0,ne0]
  simp only [qR]
  unfold jm
  by_cases h5:(qo p x.Name).Kind=5
  · rw [dT h5, dF (show ¬ (qo p x.Name).Kind = 1 by omega)]
    simp only [nC,Bool.true_and,Bool.false_and,lI]
    cases (kD p A (fun z=>GU z.Locks (qo p x.Name).Name)).isEmpty <;> rfl
  · rw [dF h5]
    simp only [lI,Bool.false_and]
    cases decide ((qo p x.Name).Kind=1) with
    | false=>rfl
    | true =>
      simp only [nC,Bool.true_and,bS]
      cases decide (stA A (qo p x.Name).Name=2) with
      | false=>rfl
      | true =>
        cases (xQ p (qo p x.Name).Space).dX with
        | false=>rfl
        | true =>
          simp only [Bool.true_and,nC]
          cases (kD p A (fun z=>decide (z.Kind=1)&&decide (z.Space=(qo p x.Name).Space) && !decide (z.Name=(qo p x.Name).Name))).isEmpty with
          | false=>rfl
          | true=>cases (Ak A (fun s=>decide (s=(qo p x.Name).Space))).isEmpty <;> rfl
end
end Go.KB
namespace Go.KB
set_option linter.unusedVariables false
theorem PK {α β:Type} [DecidableEq α] {k:α} {y:β}:∀ {m:List (α×β)},mJ m k=false→oZ m k y=m ++ [(k,y)]
 | [],_=>rfl
 | q :: r,h=>by
  unfold mJ at h
  rw [Bool.or_eq_false_iff] at h
  unfold oZ
  rw [h.1,lI,PK h.2];rfl
theorem PL {β : Type} {k : Str} : ∀ {m : List (Str × β)}, mJ m k = m.any fun q => decide (q.1 = k)
  | []=>rfl
  | q :: r=>by
    unfold mJ
    rw [List.any_cons,PL,show decide (k=q.1)=decide (q.1=k) from decide_eq_decide.2 ⟨Eq.symm,Eq.symm⟩]
theorem V8 {α:Type} {l m:List α} {f:α→Bool} (h:l.Perm m):l.any f=m.any f:=by
 rw [Bool.eq_iff_iff,List.any_eq_true,List.any_eq_true]
 exact ⟨fun ⟨x,a,b⟩=>⟨x,h.mem_iff.1 a,b⟩,fun ⟨x,a,b⟩=>⟨x,h.mem_iff.2 a,b⟩⟩
theorem PN {n s:Str}:∀ {l:List (Str×Str)},(HY l n s).Perm ((n,s) :: l)
 | []=>List.Perm.refl _
 | q :: r=>by
  unfold HY
  cases decide (q.1<n) with
  | false=>exact List.Perm.refl _
  | true=>exact (PN.cons q).trans (List.Perm.swap _ _ _)
theorem IA {β : Type} {k : Str} : ∀ {m : List (Str × β)}, (m.map fun q => q.1).Nodup → D8 m k = m.filter fun q => !decide (q.1 = k)
  | [],_=>rfl
  | q :: r,h=>by
    rw [List.map_cons,List.nodup_cons] at h
    unfold D8
    rw [List.filter_cons]
    by_cases hk:k=q.1
    · rw [dT hk,dT hk.symm,nC]
      simp only [Bool.not_true,Bool.false_eq_true,if_false]
      refine (List.filter_eq_self.2 fun a ha=>?_).symm
      rw [Bool.not_eq_true',decide_eq_false_iff_not]
      intro he
      exact h.1 (List.mem_map.2 ⟨a,ha,he.trans hk⟩)
    · rw [dF hk,dF (fun e=>hk e.symm),lI,IA h.2];rfl
theorem V9 {l:List (Str×Str)} (h:l.Pairwise (fun a b=>a.1<b.1)):(l.map fun q=>q.1).Nodup:=by
 unfold List.Nodup
 rw [List.pairwise_map]
 exact h.imp fun {a b} hab he=>by
  have hab':a.1<b.1:=hab
  rw [he] at hab'
  exact List.lt_irrefl _ hab'
theorem Ez {N:Nat} {p:GPermitPlan} {s:Str} (hp:EP p) (hN:1000000≤N):iY N p s=some (xQ p s,zC p s):=by
 have:=hp.s
 rw [wX (by omega) hN]
 exact congrArg some (Prod.ext rfl Ci)
theorem NV {N:Nat} {p:GPermitPlan} {s:Str} (hp:EP p) (hN:1000000≤N):jO N p s=some (qo p s,kH p s):=by
 have:=hp.m
 rw [yS (by omega) hN]
 exact congrArg some (Prod.ext rfl Ci)
structure IV (p:GPermitPlan) (g:af) (R:AO×List Str×Int) (o:List (Str×ah)×List (Str×ai)×List (Str×Str)×aj):Prop where
 rel:RelA p R.1 g o.1 o.2.1 o.2.2.1
 ref:o.2.2.2=⟨R.2.1,R.2.2⟩
theorem RelA.up {p:GPermitPlan} {A:AO} {g:af} {st:List (Str×ah)} {lH:List (Str×ai)} {pe:List (Str×Str)} (h:RelA p A g st lH pe) {n:Str} (hn:kH p n=true) (e:ah):RelA p (Wu A n e) g (oZ st n e) lH pe :=
 ⟨⟨h.b.plan,h.b.now,h.b.Kz,h.b.KA⟩,h.st.set hn e,h.pe,h.done⟩
section
variable {N:Nat} {p:GPermitPlan} {A:AO} {g:af} {st:List (Str×ah)} {lH:List (Str×ai)} {pe:List (Str×Str)} (hp:EP p) (ho:EX p) (hN:1000000≤N) (h:RelA p A g st lH pe) (b:KC A) (hpp:A.pp.Pairwise (fun a b=>a.1<b.1))
theorem wB (h:RelA p A g st lH pe) {e:Int} {l:List Str}:IV p g (vT A e l) (st,lH,pe,⟨l,e⟩):=⟨h,rfl⟩
include hN h
theorem PO {x:GEvent} (hh:kH p x.Name=true):∃ o,((ni N g st lH pe x).bind fun y=>some (y.1,lH,pe,y.2))=some o∧IV p g (GK A x) o:=by
 unfold ni GK
 rw [Am (by omega),bS,h.st.get _ hh]
 cases kL x.Person with
 | false=>exact ⟨_,rfl,wB h⟩
 | true=>exact ⟨_,rfl,h.up hh _,rfl⟩
theorem QZ {x:GEvent} (hh:kH p x.Name=true):∃ o,((nK N g st lH pe x).bind fun y=>some (y.1,lH,pe,y.2))=some o∧IV p g (Ja A x) o:=by
 unfold nK Ja
 rw [Am (by omega),bS,h.st.get _ hh,xI,tH]
 cases kL x.Person with
 | false=>exact ⟨_,rfl,wB h⟩
 | true =>
  cases (decide (x.To≤(A.es x.Name).Ap)||decide (1000000<x.To)) with
  | true=>exact ⟨_,rfl,wB h⟩
  | false=>exact ⟨_,rfl,h.up hh _,rfl⟩
omit hN in
theorem KL {x:GEvent} {k:Int} (hh:kH p x.Name=true):∃ o,(((dP N g st lH pe x.Name k).bind fun v1=>some (v1,(⟨[],0⟩:aj))).bind fun y=>some (y.1,lH,pe,y.2))=some o∧IV p g (Ce (VF A x.Name k)) o:=by
 unfold dP
 rw [h.st.get _ hh]
 exact ⟨_,rfl,h.up hh _,rfl⟩
include hp b hpp ho
theorem MB {x:GEvent} (hh:kH p x.Name=true):∃ o,((lZ N g st lH pe x).bind fun y=>some (y.1,lH,pe,y.2))=some o∧IV p g (Bv p A x) o:=by
 rw [V7 hp ho hN h b hpp hh]
 refine ⟨_,rfl,?_,rfl⟩
 simp only []
 unfold Bv
 cases kL x.Person with
 | false=>exact h
 | true =>
  cases decide (x.Person=(A.es x.Name).Gi) with
  | true=>exact h
  | false =>
   simp only [Bool.not_true,lI]
   have hw:=SB (p:=p) (A:=A) (x:=qo p x.Name)
   cases hwy:Kq p A (qo p x.Name) with
   | nil=>exact h.up hh _
   | cons r l =>
    have h0:r.Err≠0:=hw r (by rw [hwy];exact List.mem_cons_self)
    show RelA p A g (V6 (vT A r.Err r.Names) _ st).1 lH pe
    rw [PG h0];exact h
omit ho in
theorem Q5 {x:GEvent} (hh:kH p x.Name=true):∃ o,((lN N g st lH pe x).bind fun y=>some (y.1,lH,pe,y.2))=some o∧IV p g (ER p A x) o:=by
 rw [Ug hp hN h b hpp hh]
 refine ⟨_,rfl,?_,rfl⟩
 simp only []
 unfold ER
 simp only []
 cases (decide ((qo p x.Name).Kind=5) && !(kD p A (fun z=>GU z.Locks (qo p x.Name).Name)).isEmpty) with
 | true=>exact h
 | false =>
  rw [lI]
  cases (decide ((qo p x.Name).Kind=1)&&decide (stA A (qo p x.Name).Name=2)&&(xQ p (qo p x.Name).Space).dX&&(kD p A (fun z=>decide (z.Kind=1)&&decide (z.Space=(qo p x.Name).Space) && !decide (z.Name=(qo p x.Name).Name))).isEmpty && !(Ak A (fun s=>decide (s=(qo p x.Name).Space))).isEmpty) with
  | true=>exact h
  | false=>exact h.up hh _
omit ho hpp b
theorem Xv {x:GEvent}:∃ o,((pM N g st lH pe x).bind fun y=>some (st,y.1,pe,y.2))=some o∧IV p g (Xn p A x) o:=by
 have hs:=hp.s
 unfold pM Xn
 rw [h.b.plan,Ez hp hN,bS]
 simp only [bT,tH]
 cases zC p x.Space with
 | false=>exact ⟨_,rfl,wB h⟩
 | true =>
  simp only [Bool.not_true,lI]
  cases (decide (x.vH<0)||decide (1000<x.vH)||decide (x.Ot<0)||decide (1000<x.Ot)) with
  | true=>exact ⟨_,rfl,wB h⟩
  | false =>
   refine ⟨_,rfl,⟨⟨h.b.plan,h.b.now,fun s=>?_,fun s t e=>?_⟩,h.st,h.pe,h.done⟩,rfl⟩
   ·simp only [lI,Ce]
    rw [ES,h.b.Kz]
    cases decide (s=x.Space) <;> rfl
   ·simp only [lI,Ce] at e ⊢
    rw [Cj]
    by_cases he:s=x.Space
    ·rw [dT he] at e;cases e;rw [if_pos he,h.b.now]
    ·rw [dF he] at e;rw [if_neg he];exact h.b.KA s t e
theorem Wh {s:Str}:jr N g st lH pe (xQ p s)=some (kD p A (fun y=>decide (y.Kind=3)&&decide (oN p y.Space (xQ p s).Name≤1))):=by
 have hm:=hp.m
 unfold jr
 rw [EU (f:=gV N g st lH pe (xQ p s)) (A:=A) (so:=fun y=>decide (y.Kind=3)&&decide (oN p y.Space (xQ p s).Name≤1)) hp hN (fun i hi acc hacc=>?_) (fun acc=>?_)]
 ·rfl
 ·unfold gV
  simp only []
  rw [h.b.plan,bT,dT (by omega),nC,iU hi,bS,FU hN h.st (ET hi) (by decide),bS,qy (by omega)]
  have hc:([2]:List Int).contains (stA A p.aB[i].Name)=decide (stA A p.aB[i].Name=2):=by rw [Bool.eq_iff_iff];simp
  have hq:mY N g st lH pe p.aB[i] (xQ p s)=some (decide (p.aB[i].Kind=3)&&decide (oN p p.aB[i].Space (xQ p s).Name≤1)):=by
   unfold mY
   rw [h.b.plan,GN hp hN,qR]
   cases decide (p.aB[i].Kind=3) with
   | false=>rfl
   | true=>simp only [nC,bS,Bool.true_and,xI]
  rw [hc,hq]
  cases decide (stA A p.aB[i].Name=2) <;> rfl
 ·unfold gV
  simp only []
  rw [h.b.plan,bT,dF (by omega),lI]
theorem Wi {x:GEvent}:jv N g st lH pe x=some (kD p A (fun y=>!decide (y.Kind=5)&&decide (oN p y.Space x.Space≤1))):=by
 have hm:=hp.m
 unfold jv
 rw [EU (f:=gW N g st lH pe x) (A:=A) (so:=fun y=>!decide (y.Kind=5)&&decide (oN p y.Space x.Space≤1)) hp hN (fun i hi acc hacc=>?_) (fun acc=>?_)]
 ·rfl
 ·unfold gW
  simp only []
  rw [h.b.plan,bT,dT (by omega),nC,iU hi,bS,FU hN h.st (ET hi) (by decide),bS,qy (by omega)]
  have hc:([2]:List Int).contains (stA A p.aB[i].Name)=decide (stA A p.aB[i].Name=2):=by rw [Bool.eq_iff_iff];simp
  have hq:ng N g st lH pe p.aB[i] x=some (!decide (p.aB[i].Kind=5)&&decide (oN p p.aB[i].Space x.Space≤1)):=by
   unfold ng
   rw [h.b.plan,GN hp hN,ru]
   cases (!decide (p.aB[i].Kind=5)) with
   | false=>rfl
   | true=>simp only [nC,bS,Bool.true_and,xI]
  rw [hc,hq]
  cases decide (stA A p.aB[i].Name=2) <;> rfl
 ·unfold gW
  simp only []
  rw [h.b.plan,bT,dF (by omega),lI]
omit hp hN in
theorem H9 {n:Str}:mJ pe n=Dy A n:=by
 rw [PL,V8 h.pe];rfl
theorem Uh {x:GEvent}:∃ o,((og N g st lH pe x).bind fun y=>some (st,lH,y.1,y.2))=some o∧IV p g (NM p A x) o:=by
 have hs:=hp.s
 unfold og NM
 rw [Am (by omega),bS,h.b.plan]
 cases kL x.Person with
 | false=>exact ⟨_,rfl,wB h⟩
 | true =>
  simp only [Bool.not_true,lI]
  rw [Ez hp hN,bS]
  simp only []
  cases hh:zC p x.Space with
  | false=>exact ⟨_,rfl,wB h⟩
  | true =>
   have hnm:=(VN hh).2
   simp only [Bool.not_true,lI]
   rw [Uf hp hN h,Wh hp hN h,H9 h,hnm]
   cases hi:Dy A x.Person with
   | true=>exact ⟨_,rfl,wB h⟩
   | false =>
    simp only [lI]
    have hx:((bif (xQ p x.Space).dX then (some (zD p A x.Space)) else some false).bind fun v6=>(some (((xQ p x.Space).dX&&(!v6))):Option Bool))=some ((xQ p x.Space).dX && !zD p A x.Space):=by
     cases (xQ p x.Space).dX <;> rfl
    have hx2:∀ (F:Bool→Option (List (Str×Str)×aj)),((bif (xQ p x.Space).dX then (some (zD p A x.Space)) else some false).bind fun v6=>F ((xQ p x.Space).dX&&(!v6)))=F ((xQ p x.Space).dX && !zD p A x.Space):=by
     intro F;cases (xQ p x.Space).dX <;> rfl
    rw [hx2 (fun c=>bif c then _ else _)]
    cases ((xQ p x.Space).dX && !zD p A x.Space) with
    | true=>exact ⟨_,rfl,wB h⟩
    | false =>
     simp only [lI,bS,gt0]
     cases (!(kD p A (fun y=>decide (y.Kind=3)&&decide (oN p y.Space x.Space≤1))).isEmpty) with
     | true=>exact ⟨_,rfl,wB h⟩
     | false =>
      refine ⟨_,rfl,⟨⟨h.b.plan,h.b.now,h.b.Kz,h.b.KA⟩,h.st,?_,h.done⟩,rfl⟩
      show (oZ pe x.Person x.Space).Perm (HY A.pp x.Person x.Space)
      rw [PK (by rw [H9 h];exact hi)]
      exact (List.perm_append_singleton _ _).trans ((h.pe.cons _).trans PN.symm)
include hpp
omit hp in
theorem Ui {x:GEvent}:∃ o,((oh N g st lH pe x).bind fun y=>some (st,lH,y.1,y.2))=some o∧IV p g (NP A x) o:=by
 unfold oh NP
 rw [Am (by omega),bS,H9 h]
 cases kL x.Person with
 | false=>exact ⟨_,rfl,wB h⟩
 | true =>
  cases Dy A x.Person with
  | false=>exact ⟨_,rfl,wB h⟩
  | true =>
   refine ⟨_,rfl,⟨⟨h.b.plan,h.b.now,h.b.Kz,h.b.KA⟩,h.st,?_,h.done⟩,rfl⟩
   show (D8 pe x.Person).Perm (A.pp.filter fun q=>!decide (q.1=x.Person))
   rw [IA]
   ·exact h.pe.filter _
   ·exact ((h.pe.map _).nodup_iff).2 (V9 hpp)
omit hpp
include ho
theorem Uj {x:GEvent}:∃ o,((oq N g st lH pe x).bind fun y=>some (y.1,lH,pe,y.2))=some o∧IV p g (NQ p A x) o:=by
 have hs:=hp.s
 have hm:=hp.m
 unfold oq NQ
 rw [h.b.plan,Ez hp hN,bS]
 simp only []
 cases zC p x.Space with
 | false=>exact ⟨_,rfl,wB h⟩
 | true =>
  simp only [Bool.not_true,lI]
  rw [Wi hp hN h,bS]
  have hmem:∀ s ∈ kD p A (fun y=>!decide (y.Kind=5)&&decide (oN p y.Space x.Space≤1)),kH p s=true:=by
   intro s hs
   unfold kD at hs
   obtain ⟨y,hy,rfl⟩:=List.mem_map.1 hs
   exact yR.2 ⟨y,(List.mem_filter.1 hy).1,rfl⟩
  have hlen:(kD p A (fun y=>!decide (y.Kind=5)&&decide (oN p y.Space x.Space≤1))).length≤p.aB.length:=by
   unfold kD;rw [List.length_map];exact List.length_filter_le _ _
  have hin:∀ s,kH p s=true→GU (kD p A (fun y=>!decide (y.Kind=5)&&decide (oN p y.Space x.Space≤1))) s=(kH p s&&decide (stA A s=2)&&(!decide ((qo p s).Kind=5)&&decide (oN p (qo p s).Space x.Space≤1))):=by
   intro s hs
   rw [hs,Bool.true_and,Bool.eq_iff_iff,RV]
   unfold kD
   rw [List.mem_map]
   constructor
   ·rintro ⟨y,hy,rfl⟩
    obtain ⟨hy1,hy2⟩:=List.mem_filter.1 hy
    rw [ho.FP hy1];exact hy2
   ·intro hb
    obtain ⟨h1,h2⟩:=uP hs
    refine ⟨qo p s,List.mem_filter.2 ⟨h1,?_⟩,h2⟩
    rw [h2];exact hb
  generalize kD p A (fun y=>!decide (y.Kind=5)&&decide (oN p y.Space x.Space≤1))=L at hmem hlen hin
  have key:∃ st',dB (jT N g lH pe L) N (0,st)=some st'∧Ky p (fun n=>bif GU L n then ({ A.es n with state:=3 }:ah) else A.es n) st':=by
   refine Cb (N:=N) (n:=L.length) (f:=jT N g lH pe L) (s0:=(0,st)) (fun i s=>s.1=(i:Int)∧Ky p (fun n=>bif GU (L.take i) n then ({ A.es n with state:=3 }:ah) else A.es n) s.2) (fun st'=>Ky p (fun n=>bif GU L n then ({ A.es n with state:=3 }:ah) else A.es n) st') ⟨rfl,h.st.congr fun s _=>by unfold GU;simp⟩ (fun i s hi hs=>?_) (fun s hs=>?_) (by omega)
   ·obtain ⟨s1,st'⟩:=s
    obtain ⟨rfl,hr⟩:=hs
    simp only [] at hr
    have hn:=hmem _ (List.getElem_mem hi)
    refine ⟨_,by unfold jT dP;simp only [];rw [bT,dT (by omega),nC,iU hi,bS,bS,qy (by omega)],rfl,?_⟩
    refine (hr.set hn _).congr fun s hs=>?_
    simp only []
    rw [hr.get _ hn]
    have htk:GU (L.take (i+1)) s=(GU (L.take i) s||decide (s=L[i])):=by
     unfold GU;rw [List.take_succ_eq_append_getElem hi,List.any_append];simp
    rw [htk]
    by_cases he:s=L[i]
    ·subst he
     rw [dT rfl,Bool.or_true,nC,nC]
     cases GU (L.take i) L[i] <;> rfl
    ·rw [dF he,Bool.or_false];rfl
   ·obtain ⟨s1,st'⟩:=s
    obtain ⟨rfl,hr⟩:=hs
    refine ⟨st',?_,?_⟩
    ·unfold jT
     simp only []
     rw [bT,dF (by omega),lI]
    ·rw [List.take_length] at hr;exact hr
  obtain ⟨st',h1,h2⟩:=key
  rw [h1]
  refine ⟨_,rfl,⟨⟨h.b.plan,h.b.now,h.b.Kz,h.b.KA⟩,h2.congr fun s hs=>?_,h.pe,h.done⟩,rfl⟩
  show _=(bif kH p s&&decide (stA A s=2)&&(!decide ((qo p s).Kind=5)&&decide (oN p (qo p s).Space x.Space≤1)) then ({ A.es s with state:=3 }:ah) else A.es s)
  rw [hin s hs]
end
end Go.KB
namespace Go.KB
set_option linter.unusedVariables false
instance:Inhabited bn:=⟨⟨[],[],[],none⟩⟩
def NW:List bn:=(ug 0).getD []
theorem Wj {N:Nat}:ug N=some NW:=rfl
def vW (op:Int):bn:=NW[op.toNat]!
theorem KN {op:Int} (h0:0≤op) (h12:op<12):op=0∨op=1∨op=2∨op=3∨op=4∨op=5∨op=6∨op=7∨op=8∨op=9∨op=10∨op=11:=by omega
theorem Wl {op:Int} (h0:0≤op) (h12:op<12):idx NW op=some (vW op):=by
 rcases KN h0 h12 with h | h | h | h | h | h | h | h | h | h | h | h <;> subst h <;> rfl
theorem PS {op:Int} (h0:0≤op) (h12:op<12):(vW op).states=(AZ op).getD []:=by
 rcases KN h0 h12 with h | h | h | h | h | h | h | h | h | h | h | h <;> subst h <;> rfl
theorem Uk {op:Int} {l:List Int} (h:AZ op=some l):l.isEmpty=false∧l.length<100:=by
 unfold AZ at h
 repeat' split at h
 all_goals first | (cases h;exact ⟨rfl,by decide⟩) | cases h
section
variable {N:Nat} {p:GPermitPlan} {A:AO} {g:af} {st:List (Str×ah)} {lH:List (Str×ai)} {pe:List (Str×Str)} (hp:EP p) (ho:EX p) (hN:1000000≤N) (h:RelA p A g st lH pe) (b:KC A) (hpp:A.pp.Pairwise (fun a b=>a.1<b.1))
include hp hN h b hpp ho
theorem Wn {x:GEvent} (h0:0≤x.Op) (h12:x.Op<12) (hh:AZ x.Op≠none→kH p x.Name=true):∃ o,CW N g st lH pe (vW x.Op).Lm x=some o∧IV p g (Fb p A x) o:=by
  unfold CW Fb
  rcases KN h0 h12 with e | e | e | e | e | e | e | e | e | e | e | e
  · have hd : (vW x.Op).Lm = some 95 := by rw [e]; rfl
    rw [hd];simp only [e,Option.some.injEq,Nat.reduceEqDiff,decide_false,decide_true,lI,nC,if_false,Int.reduceEq]
    exact ⟨_,rfl,h,rfl⟩
  · have hd : (vW x.Op).Lm = some 96 := by rw [e]; rfl
    have hx:=hh (by rw [e];decide)
    rw [hd];simp only [e,Option.some.injEq,Nat.reduceEqDiff,decide_false,decide_true,lI,nC,if_false,Int.reduceEq]
    exact PO hN h hx
  · have hd : (vW x.Op).Lm = some 97 := by rw [e]; rfl
    have hx:=hh (by rw [e];decide)
    rw [hd];simp only [e,Option.some.injEq,Nat.reduceEqDiff,decide_false,decide_true,lI,nC,if_false,Int.reduceEq]
    exact MB hp ho hN h b hpp hx
  · have hd : (vW x.Op).Lm = some 98 := by rw [e]; rfl
    have hx:=hh (by rw [e];decide)
    rw [hd];simp only [e,Option.some.injEq,Nat.reduceEqDiff,decide_false,decide_true,lI,nC,if_false,Int.reduceEq]
    exact KL h hx
  · have hd : (vW x.Op).Lm = some 97 := by rw [e]; rfl
    have hx:=hh (by rw [e];decide)
    rw [hd];simp only [e,Option.some.injEq,Nat.reduceEqDiff,decide_false,decide_true,lI,nC,if_false,Int.reduceEq]
    exact MB hp ho hN h b hpp hx
  · have hd : (vW x.Op).Lm = some 99 := by rw [e]; rfl
    have hx:=hh (by rw [e];decide)
    rw [hd];simp only [e,Option.some.injEq,Nat.reduceEqDiff,decide_false,decide_true,lI,nC,if_false,Int.reduceEq]
    exact Q5 hp hN h b hpp hx
  · have hd : (vW x.Op).Lm = some 100 := by rw [e]; rfl
    have hx:=hh (by rw [e];decide)
    rw [hd];simp only [e,Option.some.injEq,Nat.reduceEqDiff,decide_false,decide_true,lI,nC,if_false,Int.reduceEq]
    exact KL h hx
  · have hd : (vW x.Op).Lm = some 101 := by rw [e]; rfl
    rw [hd];simp only [e,Option.some.injEq,Nat.reduceEqDiff,decide_false,decide_true,lI,nC,if_false,Int.reduceEq]
    exact Xv hp hN h
  · have hd : (vW x.Op).Lm = some 102 := by rw [e]; rfl
    rw [hd];simp only [e,Option.some.injEq,Nat.reduceEqDiff,decide_false,decide_true,lI,nC,if_false,Int.reduceEq]
    exact Uh hp hN h
  · have hd : (vW x.Op).Lm = some 103 := by rw [e]; rfl
    rw [hd];simp only [e,Option.some.injEq,Nat.reduceEqDiff,decide_false,decide_true,lI,nC,if_false,Int.reduceEq]
    exact Ui hN h hpp
  · have hd : (vW x.Op).Lm = some 104 := by rw [e]; rfl
    rw [hd];simp only [e,Option.some.injEq,Nat.reduceEqDiff,decide_false,decide_true,lI,nC,if_false,Int.reduceEq]
    exact Uj hp ho hN h
  · have hd : (vW x.Op).Lm = some 105 := by rw [e]; rfl
    have hx:=hh (by rw [e];decide)
    rw [hd];simp only [e,Option.some.injEq,Nat.reduceEqDiff,decide_false,decide_true,lI,nC,if_false,Int.reduceEq]
    exact QZ hN h hx
end
theorem RelA.Zp {p:GPermitPlan} {A:AO} {g:af} {st:List (Str×ah)} {lH:List (Str×ai)} {pe:List (Str×Str)} (h:RelA p A g st lH pe) (t:Int):RelB p { A with now:=t } ({ g with now:=t }:af) lH:=⟨h.b.plan,rfl,h.b.Kz,h.b.KA⟩
def Ia (p:GPermitPlan) (A:AO) (x:GEvent) (G:AO×List Str×Int):AO×List Str×Int:=bif decide (G.2.2=0) then (({ eX p G.1 with done:=A.done ++ [x] }:AO),[],0) else G
theorem PU {p:GPermitPlan} {A S:AO} {x:GEvent} {e:Int} {l:List Str} (he:e≠0):Ia p A x (vT S e l)=vT S e l:=by
 unfold Ia vT
 simp only []
 rw [dF he];rfl
theorem PV {p:GPermitPlan} {A:AO} {x:GEvent} {G:AO×List Str×Int} (he:G.2.2≠0):Ia p A x G=G:=by
 unfold Ia;rw [dF he];rfl
theorem SC {p:GPermitPlan} {A:AO} {x:GEvent} {G:AO×List Str×Int} (he:G.2.2=0):Ia p A x G=(({ eX p G.1 with done:=A.done ++ [x] }:AO),[],0):=by
 unfold Ia;rw [dT he];rfl
theorem Do_eq {N:Nat} {p:GPermitPlan} {A:AO} {g:af} {st:List (Str×ah)} {lH:List (Str×ai)} {pe:List (Str×Str)} (hp:EP p) (ho:EX p) (hN:1000000≤N) (h:RelA p A g st lH pe) (hi:IK p A) (hd:A.done.length<999999) (x:GEvent) :
    ∃ g' st' Ai J6,kF N g st lH pe x=some (g',st',Ai,J6,(wu p A x).2.1,(wu p A x).2.2)∧RelA p (wu p A x).1 g' st' Ai J6:=by
  have hlim:lim ≥ 10000000:=by decide
  have hm:=hp.m
  obtain ⟨gp,gn,gd⟩:=g
  have hg:p=gp:=h.b.plan.symm
  have hgn:gn=A.now:=h.b.now
  have hgd:gd=A.done:=h.done
  subst hg hgn hgd
  unfold kF wu
  rw [Wj,bS]
  have hlen:(NW.length:Int)=12:=rfl
  rw [hlen,bT,yC]
  by_cases hr:x.Op<0∨12≤x.Op∨x.At<0∨1000000<x.At
  · have hr' : (decide (x.Op < 0) || decide (12 ≤ x.Op) || decide (x.At < 0) || decide (1000000 < x.At)) = true := by simpa [or_assoc] using hr
    rw [hr',nC]
    refine ⟨⟨p,A.now,A.done⟩,st,lH,pe,?_,h⟩
    unfold sJ
    rw [yC,xI]
    cases hc:(decide (x.Op<0)||decide (12≤x.Op)) with
    | true=>rfl
    | false =>
      simp only [Bool.not_false,nC,bS,Bool.false_or]
      have:(decide (0≤x.At)&&decide (x.At≤1000000))=false:=by
        rw [Bool.or_eq_false_iff,decide_eq_false_iff_not,decide_eq_false_iff_not] at hc
        rw [Bool.and_eq_false_iff,decide_eq_false_iff_not,decide_eq_false_iff_not];omega
      rw [this];rfl
  · have hr' : (decide (x.Op < 0) || decide (12 ≤ x.Op) || decide (x.At < 0) || decide (1000000 < x.At)) = false := by simp; omega
    rw [hr',lI]
    have hop:(decide (x.Op<0)||decide (12≤x.Op))=false:=by simp;omega
    have htm:sJ N x.At=some true:=by
      unfold sJ;rw [yC,xI,dT (by omega),dT (by omega)];rfl
    rw [hop,htm]
    simp only [Bool.not_false,nC,bS,Bool.not_true,Bool.or_self,lI,bT]
    by_cases hlt:x.At<A.now
    · rw [dT hlt];exact ⟨⟨p,A.now,A.done⟩,st,lH,pe,rfl,h⟩
    rw [dF hlt,lI,lI]
    have hw0:=hi.w
    have hw:WA p A.done { A with now:=x.At }:=hw0.le (fun s=>.inl rfl) (fun _=>rfl) ⟨by show A.now≤x.At;omega,by show x.At≤1000000;omega⟩ hw0.pp (fun s t e=>.inl e) hw0.pl
    have hb0:KC { A with now:=x.At }:=hw.bd (by omega)
    obtain ⟨st1,e1,r1⟩:=H6 (pe:=pe) hp ho hN (h.Zp x.At) h.st hb0
    rw [e1,bS,Wl (by omega) (by omega),bS,PS (by omega) (by omega)]
    have hS:RelA p (eX p { A with now:=x.At }) (⟨p,x.At,A.done⟩:af) st1 lH pe:=⟨⟨rfl,rfl,h.b.Kz,h.b.KA⟩,r1,h.pe,h.done⟩
    have hbS:KC (eX p { A with now:=x.At }):=hb0.settle
    have hiS:IK p (eX p { A with now:=x.At }):=Dx ho hw
    have hact:∀ (G:AO×List Str×Int),(∃ o,CW N (⟨p,x.At,A.done⟩:af) st1 lH pe (vW x.Op).Lm x=some o∧IV p (⟨p,x.At,A.done⟩:af) G o)→StepA p (eX p { A with now:=x.At }) x G→∃ g' st' Ai J6,((CW N (⟨p,x.At,A.done⟩:af) st1 lH pe (vW x.Op).Lm x).bind fun v14=>bif (aV .neq v14.2.2.2.e 0) then (some ((⟨p,x.At,A.done⟩:af),v14.1,v14.2.1,v14.2.2.1,v14.2.2.2.names,v14.2.2.2.e)) else ((jL N (⟨p,x.At,A.done⟩:af) v14.1 v14.2.1 v14.2.2.1).bind fun v15=>(app A.done [x]).bind fun v16=>some ((⟨p,x.At,v16⟩:af),v15,v14.2.1,v14.2.2.1,([]:List Str),(0:Int))))=some (g',st',Ai,J6,(Ia p A x G).2.1,(Ia p A x G).2.2)∧RelA p (Ia p A x G).1 g' st' Ai J6:=by
      rintro G ⟨⟨a1,a2,a3,a4⟩,ho1,ho2⟩ hstep
      rw [ho1,bS]
      have hrel:=ho2.rel
      have href:a4=⟨G.2.1,G.2.2⟩:=ho2.ref
      simp only [] at hrel
      subst href
      simp only [ru]
      by_cases h0:G.2.2=0
      · rw [dT h0,SC h0]
        simp only [Bool.not_true,lI]
        have hw2:=hstep.2.1 _ hiS.w
        have hdn:(eX p { A with now:=x.At }).done=A.done:=rfl
        have hb2:KC G.1:=hw2.bd (by rw [List.length_append,hdn];simp only [List.length_singleton];omega)
        obtain ⟨st2,e2,r2⟩:=H6 (pe:=a3) hp ho hN hrel.b hrel.st hb2
        rw [e2,bS,FN (by simp only [List.length_singleton];omega),bS]
        exact ⟨_,_,_,_,rfl,⟨hrel.b.plan,hrel.b.now,hrel.b.Kz,hrel.b.KA⟩,r2,hrel.pe,rfl⟩
      · rw [dF h0,PV h0]
        exact ⟨_,_,_,_,rfl,hrel⟩
    have XQ:=fun hh=>Wn hp ho hN hS hbS hiS.w.pp (x:=x) (by omega) (by omega) hh
    have hstep:=Kw ho (A:=eX p { A with now:=x.At }) (x:=x) (by omega) (by omega)
    show ∃ g' st' Ai J6,_=some (g',st',Ai,J6,(Ia p A x (Ep p (eX p { A with now:=x.At }) x)).2.1,(Ia p A x (Ep p (eX p { A with now:=x.At }) x)).2.2)∧RelA p (Ia p A x (Ep p (eX p { A with now:=x.At }) x)).1 g' st' Ai J6
    unfold Ep at hstep ⊢
    cases hs:AZ x.Op with
    | none =>
      rw [hs] at hstep
      simp only [Option.getD_none,List.isEmpty_nil,Bool.not_true,lI,bS,Sum.elim_inl]
      exact hact _ (XQ fun hn=>absurd hs hn) hstep
    | some l =>
      rw [hs] at hstep
      obtain ⟨hl1,hl2⟩:=Uk hs
      simp only [Option.getD_some,hl1,Bool.not_false,nC] at hstep ⊢
      rw [NV hp hN,bS]
      simp only []
      cases hh:kH p x.Name with
      | false=>simp only [Bool.not_false,nC];rw [PU (by decide)];exact ⟨_,_,_,_,rfl,hS⟩
      | true =>
        rw [hh] at hstep
        simp only [Bool.not_true,lI] at hstep ⊢
        rw [FU hN r1 hh hl2,bS]
        cases hc:l.contains (stA (eX p { A with now:=x.At }) x.Name) with
        | false=>simp only [Bool.not_false,nC];rw [PU (by decide)];exact ⟨_,_,_,_,rfl,hS⟩
        | true =>
          rw [hc] at hstep
          simp only [Bool.not_true,lI,bS,Sum.elim_inl] at hstep ⊢
          exact hact _ (XQ fun _=>hh) hstep
end Go.KB
namespace Go.KB
set_option maxRecDepth 100000
end Go.KB
namespace Go.KB
set_option linter.unusedVariables false
theorem Zf {N:Nat} (p:GPermitPlan) (hN:1000000≤N):xq N p=some false∨(xq N p=some true∧EP p∧qf p=0∧p.bP.length≤8∧p.aB.length≤8∧p.dn.length≤12):=by
 unfold xq
 rcases VZ p hN with hg | ⟨hg,hp,_⟩
 ·rw [hg];exact .inl rfl
 ·rw [hg,bS,Bool.not_false,nC,Lj hp hN,bS,Bool.true_and]
  simp only [qR,xI]
  by_cases h:qf p=0∧p.bP.length≤8∧p.aB.length≤8∧p.dn.length≤12
  ·refine .inr ⟨?_,hp,h⟩
   rw [dT h.1,dT (by omega),dT (by omega),dT (by omega)];rfl
  ·refine .inl ?_
   congr 1
   rw [Bool.eq_false_iff]
   intro hx
   simp only [Bool.and_eq_true,decide_eq_true_eq] at hx
   exact h (by omega)
section
variable {N:Nat} {p:GPermitPlan} {A:AO} {g:af} {st:List (Str×ah)} {lH:List (Str×ai)} {pe:List (Str×Str)}
theorem Zg (h:RelA p A g st lH pe):pK N g st lH pe=some A.now:=by
 unfold pK;rw [h.b.now]
theorem I9 (hp:EP p) (hN:1000000≤N) (h:RelA p A g st lH pe):je N g st lH pe=some (kD p A fun _=>true):=by
 unfold je
 rw [Jd hp hN h (φ:=fun y0=>jd N y0) (so:=fun _=>true) (fun _ _=>rfl)];rfl
end
theorem do_done {p:GPermitPlan} (ho:EX p) {A:AO} {x:GEvent}:(wu p A x).1.done.length≤A.done.length+1:=by
  unfold wu
  by_cases hr:x.Op<0∨12≤x.Op∨x.At<0∨1000000<x.At
  · have hr' : (decide (x.Op < 0) || decide (12 ≤ x.Op) || decide (x.At < 0) || decide (1000000 < x.At)) = true := by simpa [or_assoc] using hr
    rw [hr'];exact Nat.le_succ _
  · have hr' : (decide (x.Op < 0) || decide (12 ≤ x.Op) || decide (x.At < 0) || decide (1000000 < x.At)) = false := by simp; omega
    rw [hr',lI]
    cases decide (x.At<A.now) with
    | true=>exact Nat.le_succ _
    | false =>
      obtain ⟨_,_,_,s4,_⟩:=Kw ho (A:=eX p { A with now:=x.At }) (x:=x) (by omega) (by omega)
      show (Ia p A x (Ep p (eX p { A with now:=x.At }) x)).1.done.length≤_
      by_cases h0:(Ep p (eX p { A with now:=x.At }) x).2.2=0
      · rw [SC h0];show (A.done ++ [x]).length≤_;simp
      · rw [PV h0,s4];exact Nat.le_succ _
structure J4 (p:GPermitPlan) (i:Nat) (A:AO) (g:af) (st:List (Str×ah)) (lH:List (Str×ai)) (pe:List (Str×Str)):Prop where
 rel:RelA p A g st lH pe
 inv:IK p A
 len:A.done.length≤i
theorem J4.bd {p:GPermitPlan} {i:Nat} {A:AO} {g:af} {st:List (Str×ah)} {lH:List (Str×ai)} {pe:List (Str×Str)} (h:J4 p i A g st lH pe) (hi:i<1000000):KC A:=h.inv.w.bd (Nat.lt_of_le_of_lt h.len hi)
theorem RS {N:Nat} {p:GPermitPlan} (hp:EP p) (ho:qf p=0) (hN:1000000≤N):∃ st,qX N p=some (some ((⟨p,0,[]⟩:af),st,[],[]),0)∧J4 p 0 (FO p) (⟨p,0,[]⟩:af) st [] []:=by
 obtain ⟨st,h1,h2⟩:=Zm hp ho hN
 exact ⟨st,h1,h2,Xo (okP ho),Nat.le_refl _⟩
theorem QJ {N:Nat} {p:GPermitPlan} {i:Nat} {A:AO} {g:af} {st:List (Str×ah)} {lH:List (Str×ai)} {pe:List (Str×Str)} (hp:EP p) (ho:EX p) (hN:1000000≤N) (h:J4 p i A g st lH pe) (hi:i<1000) (x:GEvent) :
  ∃ g' st' Ai J6,kF N g st lH pe x=some (g',st',Ai,J6,(wu p A x).2.1,(wu p A x).2.2)∧J4 p (i+1) (wu p A x).1 g' st' Ai J6:=by
 have hl:=h.len
 obtain ⟨g',st',Ai,J6,h1,h2⟩:=Do_eq hp ho hN h.rel h.inv (by omega) x
 exact ⟨g',st',Ai,J6,h1,h2,(VB ho h.inv).1,Nat.le_trans (do_done ho) (by omega)⟩
end Go.KB
