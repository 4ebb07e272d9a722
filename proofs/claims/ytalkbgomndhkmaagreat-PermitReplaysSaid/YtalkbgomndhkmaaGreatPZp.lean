/- Plain laws of chapter 7: why a permit is not opened. Plain laws of chapter 7: the people in the spaces, in the order of their names. Plain laws of chapter 7: what the program's office does. Plain laws of chapter 7: each event in the program's office. Plain laws of chapter 7: the program's office does what the office by names does. Plain laws of chapter 7: what the statements share. No condition. -/
import Derived.Test.YtalkbgomndhkmaaGreatPZn
import Derived.Test.YtalkbgomndhkmaaGreatPAwk
namespace Go.KB
set_option linter.unusedVariables false
def UL {S R:Type} (Y:S→R→Option (S×Bool)):List R→S→Option S
 | [],s=>some s
 | r :: l,s=>(Y s r).bind fun v=>bif v.2 then UL Y l v.1 else some v.1
theorem yloop {S:Type} {N:Nat} {Y:S→bV→Option (S×Bool)} {l:List bV} {s:S} (hl:l.length<1000) (hN:1000000≤N):((dU (iH N Y l) N (0,s)).bind fun Om=>Sum.elim (fun l17=>some l17) (fun U2=>some U2) Om)=UL Y (l.filter fun r=>!r.Names.isEmpty) s:=by
 have key:∀ k i s,i+k=l.length→∀ M,k<M→((dU (iH N Y l) M ((i:Int),s)).bind fun Om=>Sum.elim (fun l17=>some l17) (fun U2=>some U2) Om)=UL Y ((l.drop i).filter fun r=>!r.Names.isEmpty) s:=by
  intro k
  induction k with
  | zero =>
   intro i s hi M hM
   obtain ⟨M,rfl⟩:∃ m,M=m+1:=⟨M - 1,by omega⟩
   have:i=l.length:=by omega
   subst this
   have e:iH N Y l ((l.length:Int),s)=some (.inr (Sum.inl s)):=by
    unfold iH
    simp only []
    rw [bW,dF (by omega),lT]
   simp only [dU,e,List.drop_length];rfl
  | succ k ih =>
   intro i s hi M hM
   obtain ⟨M,rfl⟩:∃ m,M=m+1:=⟨M - 1,by omega⟩
   have hil:i<l.length:=by omega
   have e:iH N Y l ((i:Int),s)=bif !l[i].Names.isEmpty then (Y s l[i]).bind (fun v=>bif v.2 then some (.inl (((i+1:Nat):Int),v.1)) else some (.inr (.inr v.1))) else some (.inl (((i+1:Nat):Int),s)):=by
    unfold iH
    simp only []
    rw [bW,dT (by omega),lQ,jd hil,bS,gt0,qx (by omega)]
    cases l[i].Names.isEmpty with
    | true=>rfl
    | false =>
     simp only [Bool.not_false,lQ,Bool.true_and]
     congr 1
     funext v
     cases v.2 <;> rfl
   simp only [dU,e]
   rw [drop_at hil,List.filter_cons]
   cases hn:l[i].Names.isEmpty with
   | true=>simp only [Bool.not_true,lT];exact ih (i+1) s (by omega) M (by omega)
   | false =>
    simp only [Bool.not_false,lQ,if_true,UL]
    cases hy:Y s l[i] with
    | none=>rfl
    | some v =>
     simp only [bS]
     cases hv:v.2 with
     | false=>rfl
     | true=>simp only [lQ];exact ih (i+1) v.1 (by omega) M (by omega)
 simpa using key l.length 0 s (by omega) N (by omega)
theorem JC {p:GPermitPlan} {A:AO} {N:Nat} {f:(List Str×Int)→Option ((List Str×Int) ⊕ List Str)} {so:aH→Bool} (hp:EP p) (hN:1000000≤N) (hf:∀ (i:Nat) (hi:i<p.aj.length) (acc:List Str),acc.length<1000000→f (acc,(i:Int))=bif decide (stA A p.aj[i].Name=2)&&so p.aj[i] then ((app acc [p.aj[i].Name]).bind fun v=>some (.inl (v,((i+1:Nat):Int)))) else some (.inl (acc,((i+1:Nat):Int)))) (he:∀ acc,f (acc,(p.aj.length:Int))=some (.inr acc)):dU f N ([],0)=some (nC p A so):=by
 have hm:=hp.m
 have hlim:lim ≥ 10000000:=by decide
 rw [CP (f:=f) p.aj [] (fun x=>decide (stA A x.Name=2)&&so x) (fun x=>x.Name) (fun a i=>(a,i)) (fun a=>a) (fun i hi acc hacc=>?_) he (by omega)]
 ·rfl
 ·simp only [List.length_nil] at hacc
  rw [hf i hi acc (by omega)]
  cases (decide (stA A p.aj[i].Name=2)&&so p.aj[i]) with
  | false=>rfl
  | true=>simp only [lQ];rw [Ah (by simp only [List.length_singleton];omega)];rfl
section
variable {N:Nat} {p:GPermitPlan} {A:AO} {g:af} {st:List (Str×ah)} {pK:List (Str×au)} {pe:List (Str×Str)} (hp:EP p) (ho:Ee p) (hN:1000000≤N) (h:RelA p A g st pK pe) (b:I5 A)
include hp hN h
theorem jJd {x:aH}:jP N g st pK pe x=some (nC p A fun y=>yg p y x):=by
 have hm:=hp.m
 unfold jP
 rw [JC (f:=iL N g st pK pe x) (A:=A) (so:=fun y=>yg p y x) hp hN (fun i hi acc hacc=>?_) (fun acc=>?_)]
 ·rfl
 ·unfold iL
  simp only []
  rw [h.b.plan,bW,dT (by omega),lQ,jd hi,bS,Ky hN h.st (JA hi) (by decide),bS,qx (by omega)]
  have hc:([2]:List Int).contains (stA A p.aj[i].Name)=decide (stA A p.aj[i].Name=2):=by rw [Bool.eq_iff_iff];simp
  have hq:nY N g st pK pe p.aj[i] x=some (yg p p.aj[i] x):=by
   unfold nY
   rw [h.b.plan,UH hp hN];rfl
  rw [hc,hq]
  cases decide (stA A p.aj[i].Name=2) with
  | false=>rfl
  | true=>rfl
 ·unfold iL
  simp only []
  rw [h.b.plan,bW,dF (by omega),lT]
end
end Go.KB
namespace Go.KB
set_option linter.unusedVariables false
theorem Yd (a b c:Str) (h1:a≤b) (h2:b≤c):a≤c:=List.le_trans h1 h2
theorem Ye (a b:Str):a≤b∨b≤a:=List.le_total a b
theorem SK (a b:Str) (h1:a≤b) (h2:b≤a):a=b:=Std.Antisymm.antisymm (r:=(· ≤ ·)) a b h1 h2
theorem slt_le {a b:Str} (h:a<b):a≤b:=List.le_of_lt h
theorem SL {l m:List Str} (hp:l.Perm m) (hs:m.Pairwise (fun a b=>a<b)):Hz l=m:=by
 unfold Hz
 refine List.Perm.eq_of_pairwise (le:=fun a b:Str=>a≤b) (fun a b _ _ h1 h2=>SK a b h1 h2) ?_ (hs.imp fun h=>slt_le h) ((List.mergeSort_perm _ _).trans hp)
 have:=List.pairwise_mergeSort (le:=fun x y:Str=>decide (x≤y)) (fun a b c h1 h2=>decide_eq_true (Yd a b c (of_decide_eq_true h1) (of_decide_eq_true h2))) (fun a b=>by
  rcases Ye a b with h | h <;> simp [h]) l
 exact this.imp fun h=>of_decide_eq_true h
theorem Yf {f:List Str→(Str×Str)→Option (List Str)} {so:Str→Bool} (π:List (Str×Str)) (hf:∀ acc q,q ∈ π→acc.length<1000000→f acc q=some (bif so q.2 then acc ++ [q.1] else acc)):∀ acc,acc.length+π.length<1000000→MF f π acc=some (acc ++ (π.filter fun q=>so q.2).map fun q=>q.1):=by
 induction π with
 | nil=>intro acc _;simp [MF]
 | cons q r ih =>
  intro acc h
  simp only [List.length_cons] at h
  unfold MF
  rw [hf acc q List.mem_cons_self (by omega),bS,ih (fun acc q hq=>hf acc q (List.mem_cons_of_mem _ hq)) _ (by cases so q.2 <;> simp <;> omega),List.filter_cons]
  cases so q.2 <;> simp
theorem Uy {A:AO} {so:Str→Bool}:(yV A so).length≤A.pp.length:=by
 unfold yV;rw [List.length_map];exact List.length_filter_le _ _
theorem UM {A : AO} {pe : List (Str × Str)} {f : List Str → (Str × Str) → Option (List Str)} {so : Str → Bool} (hpe : pe.Perm A.pp) (hpp : A.pp.Pairwise (fun a b => a.1 < b.1)) (hl : A.pp.length < 1000000) (hf : ∀ acc q, q ∈ pe → acc.length < 1000000 → f acc q = some (bif so q.2 then acc ++ [q.1] else acc)) :
    (Ko pe fun q=>(MF f q []).bind fun s=>(QS s).bind fun v=>some v)=some (yV A so):=by
  refine XF fun π hπ=>?_
  have hp:π.Perm A.pp:=hπ.trans hpe
  have hlen:π.length=A.pp.length:=hp.length_eq
  rw [Yf (so:=so) π (fun acc q hq h=>hf acc q (hπ.mem_iff.1 hq) h) [] (by simp;omega),bS,List.nil_append]
  have hs:QS ((π.filter fun q=>so q.2).map fun q=>q.1)=some (yV A so):=by
    unfold QS
    have h1:((π.filter fun q=>so q.2).map fun q=>q.1).length≤1000000:=by
      rw [List.length_map];have:=List.length_filter_le (fun q:Str×Str=>so q.2) π;omega
    rw [Nat.ble_eq_true_of_le h1,lQ]
    congr 1
    refine SL ((hp.filter _).map _) ?_
    unfold yV
    rw [List.pairwise_map]
    exact List.Pairwise.filter _ hpp
  rw [hs];rfl
end Go.KB
namespace Go.KB
set_option linter.unusedVariables false
theorem ne0 {α:Type} {l:List α}:aF .eql (List.length l:Int) 0=l.isEmpty:=by
 rw [iW]
 cases l with
 | nil=>rfl
 | cons x r=>simp;omega
def outF (R:AO×List Str×Int) (a b:List (Str×ah)):List (Str×ah)×ax:=(bif decide (R.2.2=0) then a else b,⟨R.2.1,R.2.2⟩)
theorem UN {A:AO} {e:Int} {l:List Str} {a b:List (Str×ah)} (he:e≠0):outF (wO A e l) a b=(b,⟨l,e⟩):=by
 show ((bif decide (e=0) then a else b),(⟨l,e⟩:ax))=_
 rw [dF he];rfl
theorem Wh {l:List bV} {g:ax→bV→Option (ax×Option Nat)} (hg:∀ s r,g s r=some (⟨r.Names,r.Err⟩,some 0)):UL (yl g 1) l ((⟨[],0⟩:ax),none)=some (match l with | []=>(⟨[],0⟩,none) | r :: _=>(⟨r.Names,r.Err⟩,some 0)):=by
 cases l with
 | nil=>rfl
 | cons r l =>
  unfold UL yl
  simp only [hg]
  rfl
theorem SC {p:GPermitPlan} {A:AO} {x:aH}:∀ r ∈ Gz p A x,r.Err≠0:=by
 intro r hr
 unfold Gz at hr
 rcases List.mem_append.1 hr with hr | hr
 ·cases hd:decide (A.now<x.From) with
  | false=>rw [hd] at hr;cases hr
  | true=>rw [hd,lQ,List.mem_singleton] at hr;subst hr;decide
 ·have hr:=(List.mem_filter.1 hr).1
  rcases List.mem_append.1 hr with hr | hr
  ·simp only [List.mem_cons,List.not_mem_nil,or_false] at hr
   rcases hr with rfl | rfl | rfl <;> simp
  ·cases hd:decide (x.Kind=3) with
   | false=>rw [hd] at hr;cases hr
   | true=>rw [hd,lQ,List.mem_singleton] at hr;subst hr;simp
section
variable {N:Nat} {p:GPermitPlan} {A:AO} {g:af} {st:List (Str×ah)} {pK:List (Str×au)} {pe:List (Str×Str)} (hp:EP p) (ho:Ee p) (hN:1000000≤N) (h:RelA p A g st pK pe) (b:I5 A) (hpp:A.pp.Pairwise (fun a b=>a.1<b.1))
include hp hN h
theorem Oa {φ:aH→Option Bool} {so:aH→Bool} (hφ:∀ y ∈ p.aj,φ y=some (so y)):iI N g st pK pe φ=some (nC p A so):=by
 have hm:=hp.m
 unfold iI
 rw [JC (f:=lD N g st pK pe φ) (A:=A) (so:=so) hp hN (fun i hi acc hacc=>?_) (fun acc=>?_)]
 ·rfl
 ·unfold lD
  simp only []
  rw [h.b.plan,bW,dT (by omega),lQ,jd hi,bS,Ky hN h.st (JA hi) (by decide),bS,qx (by omega)]
  have hc:([2]:List Int).contains (stA A p.aj[i].Name)=decide (stA A p.aj[i].Name=2):=by rw [Bool.eq_iff_iff];simp
  rw [hc,hφ _ (List.getElem_mem hi)]
  cases decide (stA A p.aj[i].Name=2) <;> rfl
 ·unfold lD
  simp only []
  rw [h.b.plan,bW,dF (by omega),lT]
theorem Yg {s:Str}:qJ N g st pK pe s=some (xM p A s):=by
 unfold qJ xM
 rw [Oa hp hN h (so:=fun y=>decide (y.Kind=1)&&decide (y.Space=s)) (fun y _=>by unfold nH;rw [iW,rJ]),bS,gt0]
include b hpp
omit hp hN in
theorem Wi {φ:Str→Option Bool} {so:Str→Bool} (hφ:∀ s,φ s=some (so s)):mZ N g st pK pe φ=some (yV A so):=by
 have hlim:lim ≥ 10000000:=by decide
 unfold mZ
 refine UM (f:=oD N φ) h.pe hpp b.pl fun acc q _ hacc=>?_
 unfold oD
 rw [hφ,bS]
 cases so q.2 with
 | false=>rfl
 | true=>rw [lQ,lQ,Ah (by simp only [List.length_singleton];omega)];rfl
theorem UO {x:aH}:jv N g st pK pe x=some (yV A fun s=>decide (kY p s x.Space≤1)):=by
 have hlim:lim ≥ 10000000:=by decide
 unfold jv
 refine UM (f:=jb N g st pK x) (so:=fun s=>decide (kY p s x.Space≤1)) h.pe hpp b.pl fun acc q _ hacc=>?_
 unfold jb oP
 rw [h.b.plan,Lp hp hN,bS,bS,wK]
 cases decide (kY p q.2 x.Space≤1) with
 | false=>rfl
 | true=>rw [lQ,lQ,Ah (by simp only [List.length_singleton];omega)];rfl
include ho
theorem Wj {S:Type} {Y:S→bV→Option (S×Bool)} {y0:S} {x:aH} (hx:x ∈ p.aj):mJ N Y y0 g st pK pe x=UL Y (Gz p A x) y0:=by
 have hlim:lim ≥ 10000000:=by decide
 unfold mJ Gz
 rw [bW,h.b.now,Nv hp hN h.st (hp.l _ hx) (fun l hl=>(ho.lk _ hx l hl).1),jJd hp hN h,PW hp hN h.b b,UO hp hN h b hpp,iW]
 simp only [bS]
 have hl:((bif decide (x.Kind=3) then ((app [(⟨18,E8 A x⟩:bV),(⟨20,nC p A fun y=>yg p y x⟩:bV),(⟨21,AZ p A x⟩:bV)] [(⟨17,yV A fun s=>decide (kY p s x.Space≤1)⟩:bV)]).bind fun v6=>some v6) else (some [(⟨18,E8 A x⟩:bV),(⟨20,nC p A fun y=>yg p y x⟩:bV),(⟨21,AZ p A x⟩:bV)])):Option (List bV))=some ([(⟨18,E8 A x⟩:bV),(⟨20,nC p A (fun y=>yg p y x)⟩:bV),(⟨21,AZ p A x⟩:bV)] ++ (bif decide (x.Kind=3) then [(⟨17,yV A (fun s=>decide (kY p s x.Space≤1))⟩:bV)] else [])):=by
  cases decide (x.Kind=3) with
  | false=>rfl
  | true=>rw [lQ,Ah (by simp only [List.length_cons,List.length_nil];omega)];rfl
 rw [hl]
 simp only [bS]
 have hlen:([(⟨18,E8 A x⟩:bV),(⟨20,nC p A (fun y=>yg p y x)⟩:bV),(⟨21,AZ p A x⟩:bV)] ++ (bif decide (x.Kind=3) then [(⟨17,yV A (fun s=>decide (kY p s x.Space≤1))⟩:bV)] else [])).length<1000:=by
  cases decide (x.Kind=3) <;> simp
 simp only [yloop hlen hN]
 cases hd:decide (A.now<x.From) with
 | false=>simp only [lT,bS,Bool.false_and,List.nil_append]
 | true =>
  simp only [lQ,Bool.true_and,List.singleton_append,UL]
  congr 1
  funext v
  cases v.2 <;> rfl
theorem jJf {x:GEvent} (hh:mX p x.Name=true):pq N g st pK pe x=some (outF (Ai p A x) (sG st x.Name { A.es x.Name with state:=2 }) st):=by
 have hm:=hp.m
 unfold pq Ai
 rw [EO (by omega),bS,rJ,h.st.get _ hh]
 cases lZ x.Person with
 | false=>rfl
 | true =>
  cases decide (x.Person=(A.es x.Name).zS) with
  | true=>rfl
  | false =>
   simp only [Bool.not_true,lT]
   rw [h.b.plan,Fv (by omega) hN,bS]
   unfold sS
   rw [bS]
   show ((mJ N (yl (jI N) 1) ((⟨[],0⟩:ax),none) g st pK pe (sH p x.Name)).bind _)=_
   rw [Wj hp ho hN h b hpp (Ap hh).1,Wh (g:=jI N) (fun s r=>rfl),bS]
   have hw:=SC (p:=p) (A:=A) (x:=sH p x.Name)
   cases hwy:Gz p A (sH p x.Name) with
   | nil =>
    simp only [Me]
    unfold gB
    rw [h.st.get _ hh];rfl
   | cons r l =>
    have h0:r.Err≠0:=hw r (by rw [hwy];exact List.mem_cons_self)
    show (bif decide True then some (st,(⟨r.Names,r.Err⟩:ax)) else none)=some (outF (wO A r.Err r.Names) _ st)
    rw [UN h0];rfl
omit ho in
theorem Yh {x:GEvent} (hh:mX p x.Name=true):oJ N g st pK pe x=some (outF (BD p A x) (sG st x.Name { A.es x.Name with state:=4 }) st):=by
  have hm:=hp.m
  have hs:=hp.s
  obtain ⟨hy,hyn⟩:=Ap hh
  have hb:gB N g st pK pe x.Name 4=some (sG st x.Name { A.es x.Name with state:=4 }):=by
    unfold gB;rw [h.st.get _ hh]
  unfold oJ BD
  rw [h.b.plan,Fv (by omega) hN,bS]
  show ((jw N p (sH p x.Name).Space).bind fun v2=>_)=_
  rw [AP (by omega) hN,bS]
  simp only []
  have e1:iI N g st pK pe (fun y0=>kC N y0 (sH p x.Name))=some (nC p A (fun z=>EQ z.Locks (sH p x.Name).Name)):=Oa hp hN h fun y hy=>by
    unfold kC;rw [PZ (Nat.lt_trans (hp.l y hy) (by decide)) hN];rfl
  have e2:iI N g st pK pe (fun y0=>kD N y0 (sH p x.Name))=some (nC p A (fun z=>decide (z.Kind=1)&&decide (z.Space=(sH p x.Name).Space) && !decide (z.Name=(sH p x.Name).Name))):=Oa hp hN h fun y hy=>by
    unfold kD;rw [iW,rJ,UE]
  have e3:mZ N g st pK pe (fun y0=>kE N y0 (sH p x.Name))=some (yV A (fun s=>decide (s=(sH p x.Name).Space))):=Wi h b hpp fun s=>by
    unfold kE;rw [rJ]
  have e4:fG N g st pK pe (sH p x.Name).Name [2]=some (decide (stA A (sH p x.Name).Name=2)):=by
    rw [Ky hN h.st (by rw [hyn];exact hh) (by decide)]
    congr 1;rw [Bool.eq_iff_iff];simp
  show (((bif aF .eql (sH p x.Name).Kind 5 then ((iI N g st pK pe (fun y0=>kC N y0 (sH p x.Name))).bind fun v3=>bif (aF .gtr (List.length v3:Int) 0) then ((kM N 20 v3).bind fun v4=>some (Sum.inr v4)) else (some (Sum.inl (⟨[],0⟩:ax)))) else ((bif aF .eql (sH p x.Name).Kind 1 then (fG N g st pK pe (sH p x.Name).Name [2]) else some false).bind fun v6=>bif ((aF .eql (sH p x.Name).Kind 1&&v6)&&(y9 p (sH p x.Name).Space).dH) then ((iI N g st pK pe (fun y0=>kD N y0 (sH p x.Name))).bind fun v7=>(mZ N g st pK pe (fun y0=>kE N y0 (sH p x.Name))).bind fun v8=>bif (aF .eql (List.length v7:Int) 0&&aF .gtr (List.length v8:Int) 0) then ((kM N 21 v8).bind fun v9=>some (Sum.inr v9)) else (some (Sum.inl (⟨[],0⟩:ax)))) else (some (Sum.inl (⟨[],0⟩:ax))))):Option (ax ⊕ ax)).bind fun U3=>Sum.elim (fun l15=>(gB N g st pK pe x.Name 4).bind fun v17=>some (v17,(⟨[],0⟩:ax))) (fun r16=>some (st,r16)) U3)=_
  rw [e1,e2,e3,e4,hb]
  simp only [bS,gt0,ne0]
  simp only [iW]
  unfold kM
  by_cases h5:(sH p x.Name).Kind=5
  · rw [dT h5, dF (show ¬ (sH p x.Name).Kind = 1 by omega)]
    simp only [lQ,Bool.true_and,Bool.false_and,lT]
    cases (nC p A (fun z=>EQ z.Locks (sH p x.Name).Name)).isEmpty <;> rfl
  · rw [dF h5]
    simp only [lT,Bool.false_and]
    cases decide ((sH p x.Name).Kind=1) with
    | false=>rfl
    | true =>
      simp only [lQ,Bool.true_and,bS]
      cases decide (stA A (sH p x.Name).Name=2) with
      | false=>rfl
      | true =>
        cases (y9 p (sH p x.Name).Space).dH with
        | false=>rfl
        | true =>
          simp only [Bool.true_and,lQ]
          cases (nC p A (fun z=>decide (z.Kind=1)&&decide (z.Space=(sH p x.Name).Space) && !decide (z.Name=(sH p x.Name).Name))).isEmpty with
          | false=>rfl
          | true=>cases (yV A (fun s=>decide (s=(sH p x.Name).Space))).isEmpty <;> rfl
end
end Go.KB
namespace Go.KB
set_option linter.unusedVariables false
theorem UQ {α β:Type} [DecidableEq α] {k:α} {y:β}:∀ {m:List (α×β)},pX m k=false→sG m k y=m ++ [(k,y)]
 | [],_=>rfl
 | q :: r,h=>by
  unfold pX at h
  rw [Bool.or_eq_false_iff] at h
  unfold sG
  rw [h.1,lT,UQ h.2];rfl
theorem UR {β : Type} {k : Str} : ∀ {m : List (Str × β)}, pX m k = m.any fun q => decide (q.1 = k)
  | []=>rfl
  | q :: r=>by
    unfold pX
    rw [List.any_cons,UR,show decide (k=q.1)=decide (q.1=k) from decide_eq_decide.2 ⟨Eq.symm,Eq.symm⟩]
theorem jJh {α:Type} {l m:List α} {f:α→Bool} (h:l.Perm m):l.any f=m.any f:=by
 rw [Bool.eq_iff_iff,List.any_eq_true,List.any_eq_true]
 exact ⟨fun ⟨x,a,b⟩=>⟨x,h.mem_iff.1 a,b⟩,fun ⟨x,a,b⟩=>⟨x,h.mem_iff.2 a,b⟩⟩
theorem UU {n s:Str}:∀ {l:List (Str×Str)},(JL l n s).Perm ((n,s) :: l)
 | []=>List.Perm.refl _
 | q :: r=>by
  unfold JL
  cases decide (q.1<n) with
  | false=>exact List.Perm.refl _
  | true=>exact (UU.cons q).trans (List.Perm.swap _ _ _)
theorem Nz {β : Type} {k : Str} : ∀ {m : List (Str × β)}, (m.map fun q => q.1).Nodup → IC m k = m.filter fun q => !decide (q.1 = k)
  | [],_=>rfl
  | q :: r,h=>by
    rw [List.map_cons,List.nodup_cons] at h
    unfold IC
    rw [List.filter_cons]
    by_cases hk:k=q.1
    · rw [dT hk,dT hk.symm,lQ]
      simp only [Bool.not_true,Bool.false_eq_true,if_false]
      refine (List.filter_eq_self.2 fun a ha=>?_).symm
      rw [Bool.not_eq_true',decide_eq_false_iff_not]
      intro he
      exact h.1 (List.mem_map.2 ⟨a,ha,he.trans hk⟩)
    · rw [dF hk,dF (fun e=>hk e.symm),lT,Nz h.2];rfl
theorem jJl {l:List (Str×Str)} (h:l.Pairwise (fun a b=>a.1<b.1)):(l.map fun q=>q.1).Nodup:=by
 unfold List.Nodup
 rw [List.pairwise_map]
 exact h.imp fun {a b} hab he=>by
  have hab':a.1<b.1:=hab
  rw [he] at hab'
  exact List.lt_irrefl _ hab'
theorem Jf {N:Nat} {p:GPermitPlan} {s:Str} (hp:EP p) (hN:1000000≤N):jw N p s=some (y9 p s,xw p s):=by
 have:=hp.s
 rw [AP (by omega) hN]
 exact congrArg some (Prod.ext rfl JB)
theorem SN {N:Nat} {p:GPermitPlan} {s:Str} (hp:EP p) (hN:1000000≤N):oU N p s=some (sH p s,mX p s):=by
 have:=hp.m
 rw [Fv (by omega) hN]
 exact congrArg some (Prod.ext rfl JB)
structure NJ (p:GPermitPlan) (g:af) (R:AO×List Str×Int) (o:List (Str×ah)×List (Str×au)×List (Str×Str)×ax):Prop where
 rel:RelA p R.1 g o.1 o.2.1 o.2.2.1
 ref:o.2.2.2=⟨R.2.1,R.2.2⟩
theorem RelA.up {p:GPermitPlan} {A:AO} {g:af} {st:List (Str×ah)} {pK:List (Str×au)} {pe:List (Str×Str)} (h:RelA p A g st pK pe) {n:Str} (hn:mX p n=true) (e:ah):RelA p (VY A n e) g (sG st n e) pK pe :=
 ⟨⟨h.b.plan,h.b.now,h.b.PU,h.b.PV⟩,h.st.set hn e,h.pe,h.done⟩
section
variable {N:Nat} {p:GPermitPlan} {A:AO} {g:af} {st:List (Str×ah)} {pK:List (Str×au)} {pe:List (Str×Str)} (hp:EP p) (ho:Ee p) (hN:1000000≤N) (h:RelA p A g st pK pe) (b:I5 A) (hpp:A.pp.Pairwise (fun a b=>a.1<b.1))
theorem Ac (h:RelA p A g st pK pe) {e:Int} {l:List Str}:NJ p g (wO A e l) (st,pK,pe,⟨l,e⟩):=⟨h,rfl⟩
include hN h
theorem UW {x:GEvent} (hh:mX p x.Name=true):∃ o,((qo N g st pK pe x).bind fun y=>some (y.1,pK,pe,y.2))=some o∧NJ p g (Dl A x) o:=by
 unfold qo Dl
 rw [EO (by omega),bS,h.st.get _ hh]
 cases lZ x.Person with
 | false=>exact ⟨_,rfl,Ac h⟩
 | true=>exact ⟨_,rfl,h.up hh _,rfl⟩
theorem Wl {x:GEvent} (hh:mX p x.Name=true):∃ o,((qI N g st pK pe x).bind fun y=>some (y.1,pK,pe,y.2))=some o∧NJ p g (Fp A x) o:=by
 unfold qI Fp
 rw [EO (by omega),bS,h.st.get _ hh,wK,uf]
 cases lZ x.Person with
 | false=>exact ⟨_,rfl,Ac h⟩
 | true =>
  cases (decide (x.To≤(A.es x.Name).yQ)||decide (1000000<x.To)) with
  | true=>exact ⟨_,rfl,Ac h⟩
  | false=>exact ⟨_,rfl,h.up hh _,rfl⟩
omit hN in
theorem P7 {x:GEvent} {k:Int} (hh:mX p x.Name=true):∃ o,(((gB N g st pK pe x.Name k).bind fun v1=>some (v1,(⟨[],0⟩:ax))).bind fun y=>some (y.1,pK,pe,y.2))=some o∧NJ p g (BB (Qb A x.Name k)) o:=by
 unfold gB
 rw [h.st.get _ hh]
 exact ⟨_,rfl,h.up hh _,rfl⟩
include hp b hpp ho
theorem Q9 {x:GEvent} (hh:mX p x.Name=true):∃ o,((pq N g st pK pe x).bind fun y=>some (y.1,pK,pe,y.2))=some o∧NJ p g (Ai p A x) o:=by
 rw [jJf hp ho hN h b hpp hh]
 refine ⟨_,rfl,?_,rfl⟩
 simp only []
 unfold Ai
 cases lZ x.Person with
 | false=>exact h
 | true =>
  cases decide (x.Person=(A.es x.Name).zS) with
  | true=>exact h
  | false =>
   simp only [Bool.not_true,lT]
   have hw:=SC (p:=p) (A:=A) (x:=sH p x.Name)
   cases hwy:Gz p A (sH p x.Name) with
   | nil=>exact h.up hh _
   | cons r l =>
    have h0:r.Err≠0:=hw r (by rw [hwy];exact List.mem_cons_self)
    show RelA p A g (outF (wO A r.Err r.Names) _ st).1 pK pe
    rw [UN h0];exact h
omit ho in
theorem Wn {x:GEvent} (hh:mX p x.Name=true):∃ o,((oJ N g st pK pe x).bind fun y=>some (y.1,pK,pe,y.2))=some o∧NJ p g (BD p A x) o:=by
 rw [Yh hp hN h b hpp hh]
 refine ⟨_,rfl,?_,rfl⟩
 simp only []
 unfold BD
 simp only []
 cases (decide ((sH p x.Name).Kind=5) && !(nC p A (fun z=>EQ z.Locks (sH p x.Name).Name)).isEmpty) with
 | true=>exact h
 | false =>
  rw [lT]
  cases (decide ((sH p x.Name).Kind=1)&&decide (stA A (sH p x.Name).Name=2)&&(y9 p (sH p x.Name).Space).dH&&(nC p A (fun z=>decide (z.Kind=1)&&decide (z.Space=(sH p x.Name).Space) && !decide (z.Name=(sH p x.Name).Name))).isEmpty && !(yV A (fun s=>decide (s=(sH p x.Name).Space))).isEmpty) with
  | true=>exact h
  | false=>exact h.up hh _
omit ho hpp b
theorem jQ0 {x:GEvent}:∃ o,((sW N g st pK pe x).bind fun y=>some (st,y.1,pe,y.2))=some o∧NJ p g (Uu p A x) o:=by
 have hs:=hp.s
 unfold sW Uu
 rw [h.b.plan,Jf hp hN,bS]
 simp only [bW,uf]
 cases xw p x.Space with
 | false=>exact ⟨_,rfl,Ac h⟩
 | true =>
  simp only [Bool.not_true,lT]
  cases (decide (x.oz<0)||decide (1000<x.oz)||decide (x.GY<0)||decide (1000<x.GY)) with
  | true=>exact ⟨_,rfl,Ac h⟩
  | false =>
   refine ⟨_,rfl,⟨⟨h.b.plan,h.b.now,fun s=>?_,fun s t e=>?_⟩,h.st,h.pe,h.done⟩,rfl⟩
   ·simp only [lT,BB]
    rw [Jz,h.b.PU]
    cases decide (s=x.Space) <;> rfl
   ·simp only [lT,BB] at e ⊢
    rw [GI]
    by_cases he:s=x.Space
    ·rw [dT he] at e;cases e;rw [if_pos he,h.b.now]
    ·rw [dF he] at e;rw [if_neg he];exact h.b.PV s t e
theorem jJm {s:Str}:kX N g st pK pe (y9 p s)=some (nC p A (fun y=>decide (y.Kind=3)&&decide (kY p y.Space (y9 p s).Name≤1))):=by
 have hm:=hp.m
 unfold kX
 rw [JC (f:=ji N g st pK pe (y9 p s)) (A:=A) (so:=fun y=>decide (y.Kind=3)&&decide (kY p y.Space (y9 p s).Name≤1)) hp hN (fun i hi acc hacc=>?_) (fun acc=>?_)]
 ·rfl
 ·unfold ji
  simp only []
  rw [h.b.plan,bW,dT (by omega),lQ,jd hi,bS,Ky hN h.st (JA hi) (by decide),bS,qx (by omega)]
  have hc:([2]:List Int).contains (stA A p.aj[i].Name)=decide (stA A p.aj[i].Name=2):=by rw [Bool.eq_iff_iff];simp
  have hq:qp N g st pK pe p.aj[i] (y9 p s)=some (decide (p.aj[i].Kind=3)&&decide (kY p p.aj[i].Space (y9 p s).Name≤1)):=by
   unfold qp
   rw [h.b.plan,Lp hp hN,iW]
   cases decide (p.aj[i].Kind=3) with
   | false=>rfl
   | true=>simp only [lQ,bS,Bool.true_and,wK]
  rw [hc,hq]
  cases decide (stA A p.aj[i].Name=2) <;> rfl
 ·unfold ji
  simp only []
  rw [h.b.plan,bW,dF (by omega),lT]
theorem jJn {x:GEvent}:kW N g st pK pe x=some (nC p A (fun y=>!decide (y.Kind=5)&&decide (kY p y.Space x.Space≤1))):=by
 have hm:=hp.m
 unfold kW
 rw [JC (f:=jh N g st pK pe x) (A:=A) (so:=fun y=>!decide (y.Kind=5)&&decide (kY p y.Space x.Space≤1)) hp hN (fun i hi acc hacc=>?_) (fun acc=>?_)]
 ·rfl
 ·unfold jh
  simp only []
  rw [h.b.plan,bW,dT (by omega),lQ,jd hi,bS,Ky hN h.st (JA hi) (by decide),bS,qx (by omega)]
  have hc:([2]:List Int).contains (stA A p.aj[i].Name)=decide (stA A p.aj[i].Name=2):=by rw [Bool.eq_iff_iff];simp
  have hq:ql N g st pK pe p.aj[i] x=some (!decide (p.aj[i].Kind=5)&&decide (kY p p.aj[i].Space x.Space≤1)):=by
   unfold ql
   rw [h.b.plan,Lp hp hN,qN]
   cases (!decide (p.aj[i].Kind=5)) with
   | false=>rfl
   | true=>simp only [lQ,bS,Bool.true_and,wK]
  rw [hc,hq]
  cases decide (stA A p.aj[i].Name=2) <;> rfl
 ·unfold jh
  simp only []
  rw [h.b.plan,bW,dF (by omega),lT]
omit hp hN in
theorem MS {n:Str}:pX pe n=Aa A n:=by
 rw [UR,jJh h.pe];rfl
theorem Yi {x:GEvent}:∃ o,((rC N g st pK pe x).bind fun y=>some (st,pK,y.1,y.2))=some o∧NJ p g (Jd p A x) o:=by
 have hs:=hp.s
 unfold rC Jd
 rw [EO (by omega),bS,h.b.plan]
 cases lZ x.Person with
 | false=>exact ⟨_,rfl,Ac h⟩
 | true =>
  simp only [Bool.not_true,lT]
  rw [Jf hp hN,bS]
  simp only []
  cases hh:xw p x.Space with
  | false=>exact ⟨_,rfl,Ac h⟩
  | true =>
   have hnm:=(Le hh).2
   simp only [Bool.not_true,lT]
   rw [Yg hp hN h,jJm hp hN h,MS h,hnm]
   cases hi:Aa A x.Person with
   | true=>exact ⟨_,rfl,Ac h⟩
   | false =>
    simp only [lT]
    have hx:((bif (y9 p x.Space).dH then (some (xM p A x.Space)) else some false).bind fun v6=>(some (((y9 p x.Space).dH&&(!v6))):Option Bool))=some ((y9 p x.Space).dH && !xM p A x.Space):=by
     cases (y9 p x.Space).dH <;> rfl
    have hx2:∀ (F:Bool→Option (List (Str×Str)×ax)),((bif (y9 p x.Space).dH then (some (xM p A x.Space)) else some false).bind fun v6=>F ((y9 p x.Space).dH&&(!v6)))=F ((y9 p x.Space).dH && !xM p A x.Space):=by
     intro F;cases (y9 p x.Space).dH <;> rfl
    rw [hx2 (fun c=>bif c then _ else _)]
    cases ((y9 p x.Space).dH && !xM p A x.Space) with
    | true=>exact ⟨_,rfl,Ac h⟩
    | false =>
     simp only [lT,bS,gt0]
     cases (!(nC p A (fun y=>decide (y.Kind=3)&&decide (kY p y.Space x.Space≤1))).isEmpty) with
     | true=>exact ⟨_,rfl,Ac h⟩
     | false =>
      refine ⟨_,rfl,⟨⟨h.b.plan,h.b.now,h.b.PU,h.b.PV⟩,h.st,?_,h.done⟩,rfl⟩
      show (sG pe x.Person x.Space).Perm (JL A.pp x.Person x.Space)
      rw [UQ (by rw [MS h];exact hi)]
      exact (List.perm_append_singleton _ _).trans ((h.pe.cons _).trans UU.symm)
include hpp
omit hp in
theorem Yj {x:GEvent}:∃ o,((rD N g st pK pe x).bind fun y=>some (st,pK,y.1,y.2))=some o∧NJ p g (Jc A x) o:=by
 unfold rD Jc
 rw [EO (by omega),bS,MS h]
 cases lZ x.Person with
 | false=>exact ⟨_,rfl,Ac h⟩
 | true =>
  cases Aa A x.Person with
  | false=>exact ⟨_,rfl,Ac h⟩
  | true =>
   refine ⟨_,rfl,⟨⟨h.b.plan,h.b.now,h.b.PU,h.b.PV⟩,h.st,?_,h.done⟩,rfl⟩
   show (IC pe x.Person).Perm (A.pp.filter fun q=>!decide (q.1=x.Person))
   rw [Nz]
   ·exact h.pe.filter _
   ·exact ((h.pe.map _).nodup_iff).2 (jJl hpp)
omit hpp
include ho
theorem Yk {x:GEvent}:∃ o,((rE N g st pK pe x).bind fun y=>some (y.1,pK,pe,y.2))=some o∧NJ p g (Jb p A x) o:=by
 have hs:=hp.s
 have hm:=hp.m
 unfold rE Jb
 rw [h.b.plan,Jf hp hN,bS]
 simp only []
 cases xw p x.Space with
 | false=>exact ⟨_,rfl,Ac h⟩
 | true =>
  simp only [Bool.not_true,lT]
  rw [jJn hp hN h,bS]
  have hmem:∀ s ∈ nC p A (fun y=>!decide (y.Kind=5)&&decide (kY p y.Space x.Space≤1)),mX p s=true:=by
   intro s hs
   unfold nC at hs
   obtain ⟨y,hy,rfl⟩:=List.mem_map.1 hs
   exact zM.2 ⟨y,(List.mem_filter.1 hy).1,rfl⟩
  have hlen:(nC p A (fun y=>!decide (y.Kind=5)&&decide (kY p y.Space x.Space≤1))).length≤p.aj.length:=by
   unfold nC;rw [List.length_map];exact List.length_filter_le _ _
  have hin:∀ s,mX p s=true→EQ (nC p A (fun y=>!decide (y.Kind=5)&&decide (kY p y.Space x.Space≤1))) s=(mX p s&&decide (stA A s=2)&&(!decide ((sH p s).Kind=5)&&decide (kY p (sH p s).Space x.Space≤1))):=by
   intro s hs
   rw [hs,Bool.true_and,Bool.eq_iff_iff,jQa]
   unfold nC
   rw [List.mem_map]
   constructor
   ·rintro ⟨y,hy,rfl⟩
    obtain ⟨hy1,hy2⟩:=List.mem_filter.1 hy
    rw [ho.FT hy1];exact hy2
   ·intro hb
    obtain ⟨h1,h2⟩:=Ap hs
    refine ⟨sH p s,List.mem_filter.2 ⟨h1,?_⟩,h2⟩
    rw [h2];exact hb
  generalize nC p A (fun y=>!decide (y.Kind=5)&&decide (kY p y.Space x.Space≤1))=L at hmem hlen hin
  have key:∃ st',dU (mP N g pK pe L) N (0,st)=some st'∧PS p (fun n=>bif EQ L n then ({ A.es n with state:=3 }:ah) else A.es n) st':=by
   refine Lm (N:=N) (n:=L.length) (f:=mP N g pK pe L) (s0:=(0,st)) (fun i s=>s.1=(i:Int)∧PS p (fun n=>bif EQ (L.take i) n then ({ A.es n with state:=3 }:ah) else A.es n) s.2) (fun st'=>PS p (fun n=>bif EQ L n then ({ A.es n with state:=3 }:ah) else A.es n) st') ⟨rfl,h.st.congr fun s _=>by unfold EQ;simp⟩ (fun i s hi hs=>?_) (fun s hs=>?_) (by omega)
   ·obtain ⟨s1,st'⟩:=s
    obtain ⟨rfl,hr⟩:=hs
    simp only [] at hr
    have hn:=hmem _ (List.getElem_mem hi)
    refine ⟨_,by unfold mP gB;simp only [];rw [bW,dT (by omega),lQ,jd hi,bS,bS,qx (by omega)],rfl,?_⟩
    refine (hr.set hn _).congr fun s hs=>?_
    simp only []
    rw [hr.get _ hn]
    have htk:EQ (L.take (i+1)) s=(EQ (L.take i) s||decide (s=L[i])):=by
     unfold EQ;rw [List.take_succ_eq_append_getElem hi,List.any_append];simp
    rw [htk]
    by_cases he:s=L[i]
    ·subst he
     rw [dT rfl,Bool.or_true,lQ,lQ]
     cases EQ (L.take i) L[i] <;> rfl
    ·rw [dF he,Bool.or_false];rfl
   ·obtain ⟨s1,st'⟩:=s
    obtain ⟨rfl,hr⟩:=hs
    refine ⟨st',?_,?_⟩
    ·unfold mP
     simp only []
     rw [bW,dF (by omega),lT]
    ·rw [List.take_length] at hr;exact hr
  obtain ⟨st',h1,h2⟩:=key
  rw [h1]
  refine ⟨_,rfl,⟨⟨h.b.plan,h.b.now,h.b.PU,h.b.PV⟩,h2.congr fun s hs=>?_,h.pe,h.done⟩,rfl⟩
  show _=(bif mX p s&&decide (stA A s=2)&&(!decide ((sH p s).Kind=5)&&decide (kY p (sH p s).Space x.Space≤1)) then ({ A.es s with state:=3 }:ah) else A.es s)
  rw [hin s hs]
end
end Go.KB
namespace Go.KB
set_option linter.unusedVariables false
instance:Inhabited bQ:=⟨⟨[],[],[],none⟩⟩
def SQ:List bQ:=(yc 0).getD []
theorem jJp {N:Nat}:yc N=some SQ:=rfl
def zQ (op:Int):bQ:=SQ[op.toNat]!
theorem GH {op:Int} (h0:0≤op) (h12:op<12):op=0∨op=1∨op=2∨op=3∨op=4∨op=5∨op=6∨op=7∨op=8∨op=9∨op=10∨op=11:=by omega
theorem jJr {op:Int} (h0:0≤op) (h12:op<12):idx SQ op=some (zQ op):=by
 rcases GH h0 h12 with h | h | h | h | h | h | h | h | h | h | h | h <;> subst h <;> rfl
theorem UX {op:Int} (h0:0≤op) (h12:op<12):(zQ op).states=(xN op).getD []:=by
 rcases GH h0 h12 with h | h | h | h | h | h | h | h | h | h | h | h <;> subst h <;> rfl
theorem Yl {op:Int} {l:List Int} (h:xN op=some l):l.isEmpty=false∧l.length<100:=by
 unfold xN at h
 repeat' split at h
 all_goals first | (cases h;exact ⟨rfl,by decide⟩) | cases h
section
variable {N:Nat} {p:GPermitPlan} {A:AO} {g:af} {st:List (Str×ah)} {pK:List (Str×au)} {pe:List (Str×Str)} (hp:EP p) (ho:Ee p) (hN:1000000≤N) (h:RelA p A g st pK pe) (b:I5 A) (hpp:A.pp.Pairwise (fun a b=>a.1<b.1))
include hp hN h b hpp ho
theorem jJs {x:GEvent} (h0:0≤x.Op) (h12:x.Op<12) (hh:xN x.Op≠none→mX p x.Name=true):∃ o,G5 N g st pK pe (zQ x.Op).Qw x=some o∧NJ p g (wM p A x) o:=by
  unfold G5 wM
  rcases GH h0 h12 with e | e | e | e | e | e | e | e | e | e | e | e
  · have hd : (zQ x.Op).Qw = some 95 := by rw [e]; rfl
    rw [hd];simp only [e,Option.some.injEq,Nat.reduceEqDiff,decide_false,decide_true,lT,lQ,if_false,Int.reduceEq]
    exact ⟨_,rfl,h,rfl⟩
  · have hd : (zQ x.Op).Qw = some 96 := by rw [e]; rfl
    have hx:=hh (by rw [e];decide)
    rw [hd];simp only [e,Option.some.injEq,Nat.reduceEqDiff,decide_false,decide_true,lT,lQ,if_false,Int.reduceEq]
    exact UW hN h hx
  · have hd : (zQ x.Op).Qw = some 97 := by rw [e]; rfl
    have hx:=hh (by rw [e];decide)
    rw [hd];simp only [e,Option.some.injEq,Nat.reduceEqDiff,decide_false,decide_true,lT,lQ,if_false,Int.reduceEq]
    exact Q9 hp ho hN h b hpp hx
  · have hd : (zQ x.Op).Qw = some 98 := by rw [e]; rfl
    have hx:=hh (by rw [e];decide)
    rw [hd];simp only [e,Option.some.injEq,Nat.reduceEqDiff,decide_false,decide_true,lT,lQ,if_false,Int.reduceEq]
    exact P7 h hx
  · have hd : (zQ x.Op).Qw = some 97 := by rw [e]; rfl
    have hx:=hh (by rw [e];decide)
    rw [hd];simp only [e,Option.some.injEq,Nat.reduceEqDiff,decide_false,decide_true,lT,lQ,if_false,Int.reduceEq]
    exact Q9 hp ho hN h b hpp hx
  · have hd : (zQ x.Op).Qw = some 99 := by rw [e]; rfl
    have hx:=hh (by rw [e];decide)
    rw [hd];simp only [e,Option.some.injEq,Nat.reduceEqDiff,decide_false,decide_true,lT,lQ,if_false,Int.reduceEq]
    exact Wn hp hN h b hpp hx
  · have hd : (zQ x.Op).Qw = some 100 := by rw [e]; rfl
    have hx:=hh (by rw [e];decide)
    rw [hd];simp only [e,Option.some.injEq,Nat.reduceEqDiff,decide_false,decide_true,lT,lQ,if_false,Int.reduceEq]
    exact P7 h hx
  · have hd : (zQ x.Op).Qw = some 101 := by rw [e]; rfl
    rw [hd];simp only [e,Option.some.injEq,Nat.reduceEqDiff,decide_false,decide_true,lT,lQ,if_false,Int.reduceEq]
    exact jQ0 hp hN h
  · have hd : (zQ x.Op).Qw = some 102 := by rw [e]; rfl
    rw [hd];simp only [e,Option.some.injEq,Nat.reduceEqDiff,decide_false,decide_true,lT,lQ,if_false,Int.reduceEq]
    exact Yi hp hN h
  · have hd : (zQ x.Op).Qw = some 103 := by rw [e]; rfl
    rw [hd];simp only [e,Option.some.injEq,Nat.reduceEqDiff,decide_false,decide_true,lT,lQ,if_false,Int.reduceEq]
    exact Yj hN h hpp
  · have hd : (zQ x.Op).Qw = some 104 := by rw [e]; rfl
    rw [hd];simp only [e,Option.some.injEq,Nat.reduceEqDiff,decide_false,decide_true,lT,lQ,if_false,Int.reduceEq]
    exact Yk hp ho hN h
  · have hd : (zQ x.Op).Qw = some 105 := by rw [e]; rfl
    have hx:=hh (by rw [e];decide)
    rw [hd];simp only [e,Option.some.injEq,Nat.reduceEqDiff,decide_false,decide_true,lT,lQ,if_false,Int.reduceEq]
    exact Wl hN h hx
end
theorem RelA.setNow {p:GPermitPlan} {A:AO} {g:af} {st:List (Str×ah)} {pK:List (Str×au)} {pe:List (Str×Str)} (h:RelA p A g st pK pe) (t:Int):RelB p { A with now:=t } ({ g with now:=t }:af) pK:=⟨h.b.plan,rfl,h.b.PU,h.b.PV⟩
def MV (p:GPermitPlan) (A:AO) (x:GEvent) (G:AO×List Str×Int):AO×List Str×Int:=bif decide (G.2.2=0) then (({ gZ p G.1 with done:=A.done ++ [x] }:AO),[],0) else G
theorem UY {p:GPermitPlan} {A S:AO} {x:GEvent} {e:Int} {l:List Str} (he:e≠0):MV p A x (wO S e l)=wO S e l:=by
 unfold MV wO
 simp only []
 rw [dF he];rfl
theorem UZ {p:GPermitPlan} {A:AO} {x:GEvent} {G:AO×List Str×Int} (he:G.2.2≠0):MV p A x G=G:=by
 unfold MV;rw [dF he];rfl
theorem Xk {p:GPermitPlan} {A:AO} {x:GEvent} {G:AO×List Str×Int} (he:G.2.2=0):MV p A x G=(({ gZ p G.1 with done:=A.done ++ [x] }:AO),[],0):=by
 unfold MV;rw [dT he];rfl
theorem Do_eq {N:Nat} {p:GPermitPlan} {A:AO} {g:af} {st:List (Str×ah)} {pK:List (Str×au)} {pe:List (Str×Str)} (hp:EP p) (ho:Ee p) (hN:1000000≤N) (h:RelA p A g st pK pe) (hi:Sl p A) (hd:A.done.length<999999) (x:GEvent) :
    ∃ g' st' FV Qo,ny N g st pK pe x=some (g',st',FV,Qo,(CQ p A x).2.1,(CQ p A x).2.2)∧RelA p (CQ p A x).1 g' st' FV Qo:=by
  have hlim:lim ≥ 10000000:=by decide
  have hm:=hp.m
  obtain ⟨gp,gn,gd⟩:=g
  have hg:p=gp:=h.b.plan.symm
  have hgn:gn=A.now:=h.b.now
  have hgd:gd=A.done:=h.done
  subst hg hgn hgd
  unfold ny CQ
  rw [jJp,bS]
  have hlen:(SQ.length:Int)=12:=rfl
  rw [hlen,bW,BA]
  by_cases hr:x.Op<0∨12≤x.Op∨x.At<0∨1000000<x.At
  · have hr' : (decide (x.Op < 0) || decide (12 ≤ x.Op) || decide (x.At < 0) || decide (1000000 < x.At)) = true := by simpa [or_assoc] using hr
    rw [hr',lQ]
    refine ⟨⟨p,A.now,A.done⟩,st,pK,pe,?_,h⟩
    unfold xg
    rw [BA,wK]
    cases hc:(decide (x.Op<0)||decide (12≤x.Op)) with
    | true=>rfl
    | false =>
      simp only [Bool.not_false,lQ,bS,Bool.false_or]
      have:(decide (0≤x.At)&&decide (x.At≤1000000))=false:=by
        rw [Bool.or_eq_false_iff,decide_eq_false_iff_not,decide_eq_false_iff_not] at hc
        rw [Bool.and_eq_false_iff,decide_eq_false_iff_not,decide_eq_false_iff_not];omega
      rw [this];rfl
  · have hr' : (decide (x.Op < 0) || decide (12 ≤ x.Op) || decide (x.At < 0) || decide (1000000 < x.At)) = false := by simp; omega
    rw [hr',lT]
    have hop:(decide (x.Op<0)||decide (12≤x.Op))=false:=by simp;omega
    have htm:xg N x.At=some true:=by
      unfold xg;rw [BA,wK,dT (by omega),dT (by omega)];rfl
    rw [hop,htm]
    simp only [Bool.not_false,lQ,bS,Bool.not_true,Bool.or_self,lT,bW]
    by_cases hlt:x.At<A.now
    · rw [dT hlt];exact ⟨⟨p,A.now,A.done⟩,st,pK,pe,rfl,h⟩
    rw [dF hlt,lT,lT]
    have hw0:=hi.w
    have hw:WA p A.done { A with now:=x.At }:=hw0.le (fun s=>.inl rfl) (fun _=>rfl) ⟨by show A.now≤x.At;omega,by show x.At≤1000000;omega⟩ hw0.pp (fun s t e=>.inl e) hw0.pl
    have hb0:I5 { A with now:=x.At }:=hw.bd (by omega)
    obtain ⟨st1,e1,r1⟩:=MR (pe:=pe) hp ho hN (h.setNow x.At) h.st hb0
    rw [e1,bS,jJr (by omega) (by omega),bS,UX (by omega) (by omega)]
    have hS:RelA p (gZ p { A with now:=x.At }) (⟨p,x.At,A.done⟩:af) st1 pK pe:=⟨⟨rfl,rfl,h.b.PU,h.b.PV⟩,r1,h.pe,h.done⟩
    have hbS:I5 (gZ p { A with now:=x.At }):=hb0.settle
    have hiS:Sl p (gZ p { A with now:=x.At }):=EN ho hw
    have hact:∀ (G:AO×List Str×Int),(∃ o,G5 N (⟨p,x.At,A.done⟩:af) st1 pK pe (zQ x.Op).Qw x=some o∧NJ p (⟨p,x.At,A.done⟩:af) G o)→StepA p (gZ p { A with now:=x.At }) x G→∃ g' st' FV Qo,((G5 N (⟨p,x.At,A.done⟩:af) st1 pK pe (zQ x.Op).Qw x).bind fun v14=>bif (aF .neq v14.2.2.2.e 0) then (some ((⟨p,x.At,A.done⟩:af),v14.1,v14.2.1,v14.2.2.1,v14.2.2.2.names,v14.2.2.2.e)) else ((mF N (⟨p,x.At,A.done⟩:af) v14.1 v14.2.1 v14.2.2.1).bind fun v15=>(app A.done [x]).bind fun v16=>some ((⟨p,x.At,v16⟩:af),v15,v14.2.1,v14.2.2.1,([]:List Str),(0:Int))))=some (g',st',FV,Qo,(MV p A x G).2.1,(MV p A x G).2.2)∧RelA p (MV p A x G).1 g' st' FV Qo:=by
      rintro G ⟨⟨a1,a2,a3,a4⟩,ho1,ho2⟩ hstep
      rw [ho1,bS]
      have hrel:=ho2.rel
      have href:a4=⟨G.2.1,G.2.2⟩:=ho2.ref
      simp only [] at hrel
      subst href
      simp only [qN]
      by_cases h0:G.2.2=0
      · rw [dT h0,Xk h0]
        simp only [Bool.not_true,lT]
        have hw2:=hstep.2.1 _ hiS.w
        have hdn:(gZ p { A with now:=x.At }).done=A.done:=rfl
        have hb2:I5 G.1:=hw2.bd (by rw [List.length_append,hdn];simp only [List.length_singleton];omega)
        obtain ⟨st2,e2,r2⟩:=MR (pe:=a3) hp ho hN hrel.b hrel.st hb2
        rw [e2,bS,Ah (by simp only [List.length_singleton];omega),bS]
        exact ⟨_,_,_,_,rfl,⟨hrel.b.plan,hrel.b.now,hrel.b.PU,hrel.b.PV⟩,r2,hrel.pe,rfl⟩
      · rw [dF h0,UZ h0]
        exact ⟨_,_,_,_,rfl,hrel⟩
    have Ns:=fun hh=>jJs hp ho hN hS hbS hiS.w.pp (x:=x) (by omega) (by omega) hh
    have hstep:=Ll ho (A:=gZ p { A with now:=x.At }) (x:=x) (by omega) (by omega)
    show ∃ g' st' FV Qo,_=some (g',st',FV,Qo,(MV p A x (wL p (gZ p { A with now:=x.At }) x)).2.1,(MV p A x (wL p (gZ p { A with now:=x.At }) x)).2.2)∧RelA p (MV p A x (wL p (gZ p { A with now:=x.At }) x)).1 g' st' FV Qo
    unfold wL at hstep ⊢
    cases hs:xN x.Op with
    | none =>
      rw [hs] at hstep
      simp only [Option.getD_none,List.isEmpty_nil,Bool.not_true,lT,bS,Sum.elim_inl]
      exact hact _ (Ns fun hn=>absurd hs hn) hstep
    | some l =>
      rw [hs] at hstep
      obtain ⟨hl1,hl2⟩:=Yl hs
      simp only [Option.getD_some,hl1,Bool.not_false,lQ] at hstep ⊢
      rw [SN hp hN,bS]
      simp only []
      cases hh:mX p x.Name with
      | false=>simp only [Bool.not_false,lQ];rw [UY (by decide)];exact ⟨_,_,_,_,rfl,hS⟩
      | true =>
        rw [hh] at hstep
        simp only [Bool.not_true,lT] at hstep ⊢
        rw [Ky hN r1 hh hl2,bS]
        cases hc:l.contains (stA (gZ p { A with now:=x.At }) x.Name) with
        | false=>simp only [Bool.not_false,lQ];rw [UY (by decide)];exact ⟨_,_,_,_,rfl,hS⟩
        | true =>
          rw [hc] at hstep
          simp only [Bool.not_true,lT,bS,Sum.elim_inl] at hstep ⊢
          exact hact _ (Ns fun _=>hh) hstep
end Go.KB
namespace Go.KB
set_option linter.unusedVariables false
section
variable {N:Nat} {p:GPermitPlan} {A:AO} {g:af} {st:List (Str×ah)} {pK:List (Str×au)} {pe:List (Str×Str)}
theorem Now_eq (h:RelA p A g st pK pe):sV N g st pK pe=some A.now:=by
 unfold sV;rw [h.b.now]
theorem jQg (hp:EP p) (hN:1000000≤N) (h:RelA p A g st pK pe):rV N g st pK pe=some (nC p A fun _=>true):=by
 unfold rV
 rw [Oa hp hN h (φ:=fun y0=>ou N y0) (so:=fun _=>true) (fun _ _=>rfl)];rfl
end
theorem do_done {p:GPermitPlan} (ho:Ee p) {A:AO} {x:GEvent}:(CQ p A x).1.done.length≤A.done.length+1:=by
  unfold CQ
  by_cases hr:x.Op<0∨12≤x.Op∨x.At<0∨1000000<x.At
  · have hr' : (decide (x.Op < 0) || decide (12 ≤ x.Op) || decide (x.At < 0) || decide (1000000 < x.At)) = true := by simpa [or_assoc] using hr
    rw [hr'];exact Nat.le_succ _
  · have hr' : (decide (x.Op < 0) || decide (12 ≤ x.Op) || decide (x.At < 0) || decide (1000000 < x.At)) = false := by simp; omega
    rw [hr',lT]
    cases decide (x.At<A.now) with
    | true=>exact Nat.le_succ _
    | false =>
      obtain ⟨_,_,_,s4,_⟩:=Ll ho (A:=gZ p { A with now:=x.At }) (x:=x) (by omega) (by omega)
      show (MV p A x (wL p (gZ p { A with now:=x.At }) x)).1.done.length≤_
      by_cases h0:(wL p (gZ p { A with now:=x.At }) x).2.2=0
      · rw [Xk h0];show (A.done ++ [x]).length≤_;simp
      · rw [UZ h0,s4];exact Nat.le_succ _
structure UA (p:GPermitPlan) (i:Nat) (A:AO) (g:af) (st:List (Str×ah)) (pK:List (Str×au)) (pe:List (Str×Str)):Prop where
 rel:RelA p A g st pK pe
 inv:Sl p A
 len:A.done.length≤i
theorem UA.bd {p:GPermitPlan} {i:Nat} {A:AO} {g:af} {st:List (Str×ah)} {pK:List (Str×au)} {pe:List (Str×Str)} (h:UA p i A g st pK pe) (hi:i<1000000):I5 A:=h.inv.w.bd (Nat.lt_of_le_of_lt h.len hi)
theorem Xc {N:Nat} {p:GPermitPlan} (hp:EP p) (ho:uG p=0) (hN:1000000≤N):∃ st,sD N p=some (some ((⟨p,0,[]⟩:af),st,[],[]),0)∧UA p 0 (FQ p) (⟨p,0,[]⟩:af) st [] []:=by
 obtain ⟨st,h1,h2⟩:=New_eq hp ho hN
 exact ⟨st,h1,h2,jQs (okP ho),Nat.le_refl _⟩
theorem run_do {N:Nat} {p:GPermitPlan} {i:Nat} {A:AO} {g:af} {st:List (Str×ah)} {pK:List (Str×au)} {pe:List (Str×Str)} (hp:EP p) (ho:Ee p) (hN:1000000≤N) (h:UA p i A g st pK pe) (hi:i<1000) (x:GEvent) :
  ∃ g' st' FV Qo,ny N g st pK pe x=some (g',st',FV,Qo,(CQ p A x).2.1,(CQ p A x).2.2)∧UA p (i+1) (CQ p A x).1 g' st' FV Qo:=by
 have hl:=h.len
 obtain ⟨g',st',FV,Qo,h1,h2⟩:=Do_eq hp ho hN h.rel h.inv (by omega) x
 exact ⟨g',st',FV,Qo,h1,h2,(ZI ho h.inv).1,Nat.le_trans (do_done ho) (by omega)⟩
end Go.KB
