/- Plain laws of chapter 7: why a permit is not opened. Plain laws of chapter 7: the people in the spaces, in the order of their names. Plain laws of chapter 7: what the program's office does. Plain laws of chapter 7: each event in the program's office. Plain laws of chapter 7: the program's office does what the office by names does. Plain laws of chapter 7: what the statements share. No condition. -/
import Derived.Test.YtekbfkfjhgfieaaGreatPZn
import Derived.Test.YtekbfkfjhgfieaaGreatPAwk
namespace Go.KB
set_option linter.unusedVariables false
def QZ {S R:Type} (Y:S→R→Option (S×Bool)):List R→S→Option S
 | [],s=>some s
 | r :: l,s=>(Y s r).bind fun v=>bif v.2 then QZ Y l v.1 else some v.1
theorem yloop {S:Type} {N:Nat} {Y:S→bD→Option (S×Bool)} {l:List bD} {s:S} (hl:l.length<1000) (hN:1000000≤N):((dX (iM N Y l) N (0,s)).bind fun TV=>Sum.elim (fun l17=>some l17) (fun X3=>some X3) TV)=QZ Y (l.filter fun r=>!r.Names.isEmpty) s:=by
 have key:∀ k i s,i+k=l.length→∀ M,k<M→((dX (iM N Y l) M ((i:Int),s)).bind fun TV=>Sum.elim (fun l17=>some l17) (fun X3=>some X3) TV)=QZ Y ((l.drop i).filter fun r=>!r.Names.isEmpty) s:=by
  intro k
  induction k with
  | zero =>
   intro i s hi M hM
   obtain ⟨M,rfl⟩:∃ m,M=m+1:=⟨M - 1,by omega⟩
   have:i=l.length:=by omega
   subst this
   have e:iM N Y l ((l.length:Int),s)=some (.inr (Sum.inl s)):=by
    unfold iM
    simp only []
    rw [bU,dF (by omega),mD]
   simp only [dX,e,List.drop_length];rfl
  | succ k ih =>
   intro i s hi M hM
   obtain ⟨M,rfl⟩:∃ m,M=m+1:=⟨M - 1,by omega⟩
   have hil:i<l.length:=by omega
   have e:iM N Y l ((i:Int),s)=bif !l[i].Names.isEmpty then (Y s l[i]).bind (fun v=>bif v.2 then some (.inl (((i+1:Nat):Int),v.1)) else some (.inr (.inr v.1))) else some (.inl (((i+1:Nat):Int),s)):=by
    unfold iM
    simp only []
    rw [bU,dT (by omega),lW,jK hil,bS,gt0,qX (by omega)]
    cases l[i].Names.isEmpty with
    | true=>rfl
    | false =>
     simp only [Bool.not_false,lW,Bool.true_and]
     congr 1
     funext v
     cases v.2 <;> rfl
   simp only [dX,e]
   rw [drop_at hil,List.filter_cons]
   cases hn:l[i].Names.isEmpty with
   | true=>simp only [Bool.not_true,mD];exact ih (i+1) s (by omega) M (by omega)
   | false =>
    simp only [Bool.not_false,lW,if_true,QZ]
    cases hy:Y s l[i] with
    | none=>rfl
    | some v =>
     simp only [bS]
     cases hv:v.2 with
     | false=>rfl
     | true=>simp only [lW];exact ih (i+1) v.1 (by omega) M (by omega)
 simpa using key l.length 0 s (by omega) N (by omega)
theorem Hg {p:GPermitPlan} {A:AO} {N:Nat} {f:(List Str×Int)→Option ((List Str×Int) ⊕ List Str)} {so:aH→Bool} (hp:FW p) (hN:1000000≤N) (hf:∀ (i:Nat) (hi:i<p.ak.length) (acc:List Str),acc.length<1000000→f (acc,(i:Int))=bif decide (stA A p.ak[i].Name=2)&&so p.ak[i] then ((app acc [p.ak[i].Name]).bind fun v=>some (.inl (v,((i+1:Nat):Int)))) else some (.inl (acc,((i+1:Nat):Int)))) (he:∀ acc,f (acc,(p.ak.length:Int))=some (.inr acc)):dX f N ([],0)=some (nH p A so):=by
 have hm:=hp.m
 have hlim:lim ≥ 10000000:=by decide
 rw [CQ (f:=f) p.ak [] (fun x=>decide (stA A x.Name=2)&&so x) (fun x=>x.Name) (fun a i=>(a,i)) (fun a=>a) (fun i hi acc hacc=>?_) he (by omega)]
 ·rfl
 ·simp only [List.length_nil] at hacc
  rw [hf i hi acc (by omega)]
  cases (decide (stA A p.ak[i].Name=2)&&so p.ak[i]) with
  | false=>rfl
  | true=>simp only [lW];rw [A7 (by simp only [List.length_singleton];omega)];rfl
section
variable {N:Nat} {p:GPermitPlan} {A:AO} {g:ai} {st:List (Str×ah)} {qg:List (Str×au)} {pe:List (Str×Str)} (hp:FW p) (ho:EQ p) (hN:1000000≤N) (h:RelA p A g st qg pe) (b:IL A)
include hp hN h
theorem jJ7 {x:aH}:kK N g st qg pe x=some (nH p A fun y=>yA p y x):=by
 have hm:=hp.m
 unfold kK
 rw [Hg (f:=iW N g st qg pe x) (A:=A) (so:=fun y=>yA p y x) hp hN (fun i hi acc hacc=>?_) (fun acc=>?_)]
 ·rfl
 ·unfold iW
  simp only []
  rw [h.b.plan,bU,dT (by omega),lW,jK hi,bS,JA hN h.st (Iy hi) (by decide),bS,qX (by omega)]
  have hc:([2]:List Int).contains (stA A p.ak[i].Name)=decide (stA A p.ak[i].Name=2):=by rw [Bool.eq_iff_iff];simp
  have hq:pz N g st qg pe p.ak[i] x=some (yA p p.ak[i] x):=by
   unfold pz
   rw [h.b.plan,Vl hp hN];rfl
  rw [hc,hq]
  cases decide (stA A p.ak[i].Name=2) with
  | false=>rfl
  | true=>rfl
 ·unfold iW
  simp only []
  rw [h.b.plan,bU,dF (by omega),mD]
end
end Go.KB
namespace Go.KB
set_option linter.unusedVariables false
theorem YC (a b c:Str) (h1:a≤b) (h2:b≤c):a≤c:=List.le_trans h1 h2
theorem YD (a b:Str):a≤b∨b≤a:=List.le_total a b
theorem TR (a b:Str) (h1:a≤b) (h2:b≤a):a=b:=Std.Antisymm.antisymm (r:=(· ≤ ·)) a b h1 h2
theorem slt_le {a b:Str} (h:a<b):a≤b:=List.le_of_lt h
theorem TS {l m:List Str} (hp:l.Perm m) (hs:m.Pairwise (fun a b=>a<b)):Iw l=m:=by
 unfold Iw
 refine List.Perm.eq_of_pairwise (le:=fun a b:Str=>a≤b) (fun a b _ _ h1 h2=>TR a b h1 h2) ?_ (hs.imp fun h=>slt_le h) ((List.mergeSort_perm _ _).trans hp)
 have:=List.pairwise_mergeSort (le:=fun x y:Str=>decide (x≤y)) (fun a b c h1 h2=>decide_eq_true (YC a b c (of_decide_eq_true h1) (of_decide_eq_true h2))) (fun a b=>by
  rcases YD a b with h | h <;> simp [h]) l
 exact this.imp fun h=>of_decide_eq_true h
theorem YF {f:List Str→(Str×Str)→Option (List Str)} {so:Str→Bool} (π:List (Str×Str)) (hf:∀ acc q,q ∈ π→acc.length<1000000→f acc q=some (bif so q.2 then acc ++ [q.1] else acc)):∀ acc,acc.length+π.length<1000000→Me f π acc=some (acc ++ (π.filter fun q=>so q.2).map fun q=>q.1):=by
 induction π with
 | nil=>intro acc _;simp [Me]
 | cons q r ih =>
  intro acc h
  simp only [List.length_cons] at h
  unfold Me
  rw [hf acc q List.mem_cons_self (by omega),bS,ih (fun acc q hq=>hf acc q (List.mem_cons_of_mem _ hq)) _ (by cases so q.2 <;> simp <;> omega),List.filter_cons]
  cases so q.2 <;> simp
theorem Ql {A:AO} {so:Str→Bool}:(vG A so).length≤A.pp.length:=by
 unfold vG;rw [List.length_map];exact List.length_filter_le _ _
theorem Qi {A : AO} {pe : List (Str × Str)} {f : List Str → (Str × Str) → Option (List Str)} {so : Str → Bool} (hpe : pe.Perm A.pp) (hpp : A.pp.Pairwise (fun a b => a.1 < b.1)) (hl : A.pp.length < 1000000) (hf : ∀ acc q, q ∈ pe → acc.length < 1000000 → f acc q = some (bif so q.2 then acc ++ [q.1] else acc)) :
    (Jt pe fun q=>(Me f q []).bind fun s=>(RF s).bind fun v=>some v)=some (vG A so):=by
  refine Yd fun π hπ=>?_
  have hp:π.Perm A.pp:=hπ.trans hpe
  have hlen:π.length=A.pp.length:=hp.length_eq
  rw [YF (so:=so) π (fun acc q hq h=>hf acc q (hπ.mem_iff.1 hq) h) [] (by simp;omega),bS,List.nil_append]
  have hs:RF ((π.filter fun q=>so q.2).map fun q=>q.1)=some (vG A so):=by
    unfold RF
    have h1:((π.filter fun q=>so q.2).map fun q=>q.1).length≤1000000:=by
      rw [List.length_map];have:=List.length_filter_le (fun q:Str×Str=>so q.2) π;omega
    rw [Nat.ble_eq_true_of_le h1,lW]
    congr 1
    refine TS ((hp.filter _).map _) ?_
    unfold vG
    rw [List.pairwise_map]
    exact List.Pairwise.filter _ hpp
  rw [hs];rfl
end Go.KB
namespace Go.KB
set_option linter.unusedVariables false
theorem ne0 {α:Type} {l:List α}:aG .eql (List.length l:Int) 0=l.isEmpty:=by
 rw [jS]
 cases l with
 | nil=>rfl
 | cons x r=>simp;omega
def outF (R:AO×List Str×Int) (a b:List (Str×ah)):List (Str×ah)×ay:=(bif decide (R.2.2=0) then a else b,⟨R.2.1,R.2.2⟩)
theorem Vq {A:AO} {e:Int} {l:List Str} {a b:List (Str×ah)} (he:e≠0):outF (xO A e l) a b=(b,⟨l,e⟩):=by
 show ((bif decide (e=0) then a else b),(⟨l,e⟩:ay))=_
 rw [dF he];rfl
theorem W9 {l:List bD} {g:ay→bD→Option (ay×Option Nat)} (hg:∀ s r,g s r=some (⟨r.Names,r.Err⟩,some 0)):QZ (yl g 1) l ((⟨[],0⟩:ay),none)=some (match l with | []=>(⟨[],0⟩,none) | r :: _=>(⟨r.Names,r.Err⟩,some 0)):=by
 cases l with
 | nil=>rfl
 | cons r l =>
  unfold QZ yl
  simp only [hg]
  rfl
theorem TK {p:GPermitPlan} {A:AO} {x:aH}:∀ r ∈ Eh p A x,r.Err≠0:=by
 intro r hr
 unfold Eh at hr
 rcases List.mem_append.1 hr with hr | hr
 ·cases hd:decide (A.now<x.From) with
  | false=>rw [hd] at hr;cases hr
  | true=>rw [hd,lW,List.mem_singleton] at hr;subst hr;decide
 ·have hr:=(List.mem_filter.1 hr).1
  rcases List.mem_append.1 hr with hr | hr
  ·simp only [List.mem_cons,List.not_mem_nil,or_false] at hr
   rcases hr with rfl | rfl | rfl <;> simp
  ·cases hd:decide (x.Kind=3) with
   | false=>rw [hd] at hr;cases hr
   | true=>rw [hd,lW,List.mem_singleton] at hr;subst hr;simp
section
variable {N:Nat} {p:GPermitPlan} {A:AO} {g:ai} {st:List (Str×ah)} {qg:List (Str×au)} {pe:List (Str×Str)} (hp:FW p) (ho:EQ p) (hN:1000000≤N) (h:RelA p A g st qg pe) (b:IL A) (hpp:A.pp.Pairwise (fun a b=>a.1<b.1))
include hp hN h
theorem O3 {φ:aH→Option Bool} {so:aH→Bool} (hφ:∀ y ∈ p.ak,φ y=some (so y)):jJ N g st qg pe φ=some (nH p A so):=by
 have hm:=hp.m
 unfold jJ
 rw [Hg (f:=pG N g st qg pe φ) (A:=A) (so:=so) hp hN (fun i hi acc hacc=>?_) (fun acc=>?_)]
 ·rfl
 ·unfold pG
  simp only []
  rw [h.b.plan,bU,dT (by omega),lW,jK hi,bS,JA hN h.st (Iy hi) (by decide),bS,qX (by omega)]
  have hc:([2]:List Int).contains (stA A p.ak[i].Name)=decide (stA A p.ak[i].Name=2):=by rw [Bool.eq_iff_iff];simp
  rw [hc,hφ _ (List.getElem_mem hi)]
  cases decide (stA A p.ak[i].Name=2) <;> rfl
 ·unfold pG
  simp only []
  rw [h.b.plan,bU,dF (by omega),mD]
theorem YG {s:Str}:rO N g st qg pe s=some (tu p A s):=by
 unfold rO tu
 rw [O3 hp hN h (so:=fun y=>decide (y.Kind=1)&&decide (y.Space=s)) (fun y _=>by unfold gX;rw [jS,ru]),bS,gt0]
include b hpp
omit hp hN in
theorem Qh {φ:Str→Option Bool} {so:Str→Bool} (hφ:∀ s,φ s=some (so s)):mr N g st qg pe φ=some (vG A so):=by
 have hlim:lim ≥ 10000000:=by decide
 unfold mr
 refine Qi (f:=pY N φ) h.pe hpp b.pl fun acc q _ hacc=>?_
 unfold pY
 rw [hφ,bS]
 cases so q.2 with
 | false=>rfl
 | true=>rw [lW,lW,A7 (by simp only [List.length_singleton];omega)];rfl
theorem Vr {x:aH}:jR N g st qg pe x=some (vG A fun s=>decide (lI p s x.Space≤1)):=by
 have hlim:lim ≥ 10000000:=by decide
 unfold jR
 refine Qi (f:=jm N g st qg x) (so:=fun s=>decide (lI p s x.Space≤1)) h.pe hpp b.pl fun acc q _ hacc=>?_
 unfold jm qB
 rw [h.b.plan,MN hp hN,bS,bS,wM]
 cases decide (lI p q.2 x.Space≤1) with
 | false=>rfl
 | true=>rw [lW,lW,A7 (by simp only [List.length_singleton];omega)];rfl
include ho
theorem Qg {S:Type} {Y:S→bD→Option (S×Bool)} {y0:S} {x:aH} (hx:x ∈ p.ak):kW N Y y0 g st qg pe x=QZ Y (Eh p A x) y0:=by
 have hlim:lim ≥ 10000000:=by decide
 unfold kW Eh
 rw [bU,h.b.now,Om hp hN h.st (hp.l _ hx) (fun l hl=>(ho.lk _ hx l hl).1),jJ7 hp hN h,QG hp hN h.b b,Vr hp hN h b hpp,jS]
 simp only [bS]
 have hl:((bif decide (x.Kind=3) then ((app [(⟨18,Fp A x⟩:bD),(⟨20,nH p A fun y=>yA p y x⟩:bD),(⟨21,BA p A x⟩:bD)] [(⟨17,vG A fun s=>decide (lI p s x.Space≤1)⟩:bD)]).bind fun v6=>some v6) else (some [(⟨18,Fp A x⟩:bD),(⟨20,nH p A fun y=>yA p y x⟩:bD),(⟨21,BA p A x⟩:bD)])):Option (List bD))=some ([(⟨18,Fp A x⟩:bD),(⟨20,nH p A (fun y=>yA p y x)⟩:bD),(⟨21,BA p A x⟩:bD)] ++ (bif decide (x.Kind=3) then [(⟨17,vG A (fun s=>decide (lI p s x.Space≤1))⟩:bD)] else [])):=by
  cases decide (x.Kind=3) with
  | false=>rfl
  | true=>rw [lW,A7 (by simp only [List.length_cons,List.length_nil];omega)];rfl
 rw [hl]
 simp only [bS]
 have hlen:([(⟨18,Fp A x⟩:bD),(⟨20,nH p A (fun y=>yA p y x)⟩:bD),(⟨21,BA p A x⟩:bD)] ++ (bif decide (x.Kind=3) then [(⟨17,vG A (fun s=>decide (lI p s x.Space≤1))⟩:bD)] else [])).length<1000:=by
  cases decide (x.Kind=3) <;> simp
 simp only [yloop hlen hN]
 cases hd:decide (A.now<x.From) with
 | false=>simp only [mD,bS,Bool.false_and,List.nil_append]
 | true =>
  simp only [lW,Bool.true_and,List.singleton_append,QZ]
  congr 1
  funext v
  cases v.2 <;> rfl
theorem jJ8 {x:GEvent} (hh:l9 p x.Name=true):qE N g st qg pe x=some (outF (Bl p A x) (uj st x.Name { A.es x.Name with state:=2 }) st):=by
 have hm:=hp.m
 unfold qE Bl
 rw [FH (by omega),bS,ru,h.st.get _ hh]
 cases mZ x.Person with
 | false=>rfl
 | true =>
  cases decide (x.Person=(A.es x.Name).AU) with
  | true=>rfl
  | false =>
   simp only [Bool.not_true,mD]
   rw [h.b.plan,DZ (by omega) hN,bS]
   unfold pI
   rw [bS]
   show ((kW N (yl (jZ N) 1) ((⟨[],0⟩:ay),none) g st qg pe (tK p x.Name)).bind _)=_
   rw [Qg hp ho hN h b hpp (AA hh).1,W9 (g:=jZ N) (fun s r=>rfl),bS]
   have hw:=TK (p:=p) (A:=A) (x:=tK p x.Name)
   cases hwy:Eh p A (tK p x.Name) with
   | nil =>
    simp only [KY]
    unfold gK
    rw [h.st.get _ hh];rfl
   | cons r l =>
    have h0:r.Err≠0:=hw r (by rw [hwy];exact List.mem_cons_self)
    show (bif decide True then some (st,(⟨r.Names,r.Err⟩:ay)) else none)=some (outF (xO A r.Err r.Names) _ st)
    rw [Vq h0];rfl
omit ho in
theorem YH {x:GEvent} (hh:l9 p x.Name=true):qi N g st qg pe x=some (outF (CW p A x) (uj st x.Name { A.es x.Name with state:=4 }) st):=by
  have hm:=hp.m
  have hs:=hp.s
  obtain ⟨hy,hyn⟩:=AA hh
  have hb:gK N g st qg pe x.Name 4=some (uj st x.Name { A.es x.Name with state:=4 }):=by
    unfold gK;rw [h.st.get _ hh]
  unfold qi CW
  rw [h.b.plan,DZ (by omega) hN,bS]
  show ((je N p (tK p x.Name).Space).bind fun v2=>_)=_
  rw [AB (by omega) hN,bS]
  simp only []
  have e1:jJ N g st qg pe (fun y0=>kZ N y0 (tK p x.Name))=some (nH p A (fun z=>FI z.Locks (tK p x.Name).Name)):=O3 hp hN h fun y hy=>by
    unfold kZ;rw [QJ (Nat.lt_trans (hp.l y hy) (by decide)) hN];rfl
  have e2:jJ N g st qg pe (fun y0=>lg N y0 (tK p x.Name))=some (nH p A (fun z=>decide (z.Kind=1)&&decide (z.Space=(tK p x.Name).Space) && !decide (z.Name=(tK p x.Name).Name))):=O3 hp hN h fun y hy=>by
    unfold lg;rw [jS,ru,Vh]
  have e3:mr N g st qg pe (fun y0=>lm N y0 (tK p x.Name))=some (vG A (fun s=>decide (s=(tK p x.Name).Space))):=Qh h b hpp fun s=>by
    unfold lm;rw [ru]
  have e4:gW N g st qg pe (tK p x.Name).Name [2]=some (decide (stA A (tK p x.Name).Name=2)):=by
    rw [JA hN h.st (by rw [hyn];exact hh) (by decide)]
    congr 1;rw [Bool.eq_iff_iff];simp
  show (((bif aG .eql (tK p x.Name).Kind 5 then ((jJ N g st qg pe (fun y0=>kZ N y0 (tK p x.Name))).bind fun v3=>bif (aG .gtr (List.length v3:Int) 0) then ((lG N 20 v3).bind fun v4=>some (Sum.inr v4)) else (some (Sum.inl (⟨[],0⟩:ay)))) else ((bif aG .eql (tK p x.Name).Kind 1 then (gW N g st qg pe (tK p x.Name).Name [2]) else some false).bind fun v6=>bif ((aG .eql (tK p x.Name).Kind 1&&v6)&&(yN p (tK p x.Name).Space).dD) then ((jJ N g st qg pe (fun y0=>lg N y0 (tK p x.Name))).bind fun v7=>(mr N g st qg pe (fun y0=>lm N y0 (tK p x.Name))).bind fun v8=>bif (aG .eql (List.length v7:Int) 0&&aG .gtr (List.length v8:Int) 0) then ((lG N 21 v8).bind fun v9=>some (Sum.inr v9)) else (some (Sum.inl (⟨[],0⟩:ay)))) else (some (Sum.inl (⟨[],0⟩:ay))))):Option (ay ⊕ ay)).bind fun VB=>Sum.elim (fun l15=>(gK N g st qg pe x.Name 4).bind fun v17=>some (v17,(⟨[],0⟩:ay))) (fun r16=>some (st,r16)) VB)=_
  rw [e1,e2,e3,e4,hb]
  simp only [bS,gt0,ne0]
  simp only [jS]
  unfold lG
  by_cases h5:(tK p x.Name).Kind=5
  · rw [dT h5, dF (show ¬ (tK p x.Name).Kind = 1 by omega)]
    simp only [lW,Bool.true_and,Bool.false_and,mD]
    cases (nH p A (fun z=>FI z.Locks (tK p x.Name).Name)).isEmpty <;> rfl
  · rw [dF h5]
    simp only [mD,Bool.false_and]
    cases decide ((tK p x.Name).Kind=1) with
    | false=>rfl
    | true =>
      simp only [lW,Bool.true_and,bS]
      cases decide (stA A (tK p x.Name).Name=2) with
      | false=>rfl
      | true =>
        cases (yN p (tK p x.Name).Space).dD with
        | false=>rfl
        | true =>
          simp only [Bool.true_and,lW]
          cases (nH p A (fun z=>decide (z.Kind=1)&&decide (z.Space=(tK p x.Name).Space) && !decide (z.Name=(tK p x.Name).Name))).isEmpty with
          | false=>rfl
          | true=>cases (vG A (fun s=>decide (s=(tK p x.Name).Space))).isEmpty <;> rfl
end
end Go.KB
namespace Go.KB
set_option linter.unusedVariables false
theorem Vs {α β:Type} [DecidableEq α] {k:α} {y:β}:∀ {m:List (α×β)},qM m k=false→uj m k y=m ++ [(k,y)]
 | [],_=>rfl
 | q :: r,h=>by
  unfold qM at h
  rw [Bool.or_eq_false_iff] at h
  unfold uj
  rw [h.1,mD,Vs h.2];rfl
theorem Vt {β : Type} {k : Str} : ∀ {m : List (Str × β)}, qM m k = m.any fun q => decide (q.1 = k)
  | []=>rfl
  | q :: r=>by
    unfold qM
    rw [List.any_cons,Vt,show decide (k=q.1)=decide (q.1=k) from decide_eq_decide.2 ⟨Eq.symm,Eq.symm⟩]
theorem jJ9 {α:Type} {l m:List α} {f:α→Bool} (h:l.Perm m):l.any f=m.any f:=by
 rw [Bool.eq_iff_iff,List.any_eq_true,List.any_eq_true]
 exact ⟨fun ⟨x,a,b⟩=>⟨x,h.mem_iff.1 a,b⟩,fun ⟨x,a,b⟩=>⟨x,h.mem_iff.2 a,b⟩⟩
theorem Vu {n s:Str}:∀ {l:List (Str×Str)},(Ku l n s).Perm ((n,s) :: l)
 | []=>List.Perm.refl _
 | q :: r=>by
  unfold Ku
  cases decide (q.1<n) with
  | false=>exact List.Perm.refl _
  | true=>exact (Vu.cons q).trans (List.Perm.swap _ _ _)
theorem Ot {β : Type} {k : Str} : ∀ {m : List (Str × β)}, (m.map fun q => q.1).Nodup → Jg m k = m.filter fun q => !decide (q.1 = k)
  | [],_=>rfl
  | q :: r,h=>by
    rw [List.map_cons,List.nodup_cons] at h
    unfold Jg
    rw [List.filter_cons]
    by_cases hk:k=q.1
    · rw [dT hk,dT hk.symm,lW]
      simp only [Bool.not_true,Bool.false_eq_true,if_false]
      refine (List.filter_eq_self.2 fun a ha=>?_).symm
      rw [Bool.not_eq_true',decide_eq_false_iff_not]
      intro he
      exact h.1 (List.mem_map.2 ⟨a,ha,he.trans hk⟩)
    · rw [dF hk,dF (fun e=>hk e.symm),mD,Ot h.2];rfl
theorem jQj {l:List (Str×Str)} (h:l.Pairwise (fun a b=>a.1<b.1)):(l.map fun q=>q.1).Nodup:=by
 unfold List.Nodup
 rw [List.pairwise_map]
 exact h.imp fun {a b} hab he=>by
  have hab':a.1<b.1:=hab
  rw [he] at hab'
  exact List.lt_irrefl _ hab'
theorem Gm {N:Nat} {p:GPermitPlan} {s:Str} (hp:FW p) (hN:1000000≤N):je N p s=some (yN p s,uY p s):=by
 have:=hp.s
 rw [AB (by omega) hN]
 exact congrArg some (Prod.ext rfl Hf)
theorem TT {N:Nat} {p:GPermitPlan} {s:Str} (hp:FW p) (hN:1000000≤N):oU N p s=some (tK p s,l9 p s):=by
 have:=hp.m
 rw [DZ (by omega) hN]
 exact congrArg some (Prod.ext rfl Hf)
structure OH (p:GPermitPlan) (g:ai) (R:AO×List Str×Int) (o:List (Str×ah)×List (Str×au)×List (Str×Str)×ay):Prop where
 rel:RelA p R.1 g o.1 o.2.1 o.2.2.1
 ref:o.2.2.2=⟨R.2.1,R.2.2⟩
theorem RelA.up {p:GPermitPlan} {A:AO} {g:ai} {st:List (Str×ah)} {qg:List (Str×au)} {pe:List (Str×Str)} (h:RelA p A g st qg pe) {n:Str} (hn:l9 p n=true) (e:ah):RelA p (WS A n e) g (uj st n e) qg pe :=
 ⟨⟨h.b.plan,h.b.now,h.b.QE,h.b.QF⟩,h.st.set hn e,h.pe,h.done⟩
section
variable {N:Nat} {p:GPermitPlan} {A:AO} {g:ai} {st:List (Str×ah)} {qg:List (Str×au)} {pe:List (Str×Str)} (hp:FW p) (ho:EQ p) (hN:1000000≤N) (h:RelA p A g st qg pe) (b:IL A) (hpp:A.pp.Pairwise (fun a b=>a.1<b.1))
theorem Bd (h:RelA p A g st qg pe) {e:Int} {l:List Str}:OH p g (xO A e l) (st,qg,pe,⟨l,e⟩):=⟨h,rfl⟩
include hN h
theorem Vw {x:GEvent} (hh:l9 p x.Name=true):∃ o,((rq N g st qg pe x).bind fun y=>some (y.1,qg,pe,y.2))=some o∧OH p g (D6 A x) o:=by
 unfold rq D6
 rw [FH (by omega),bS,h.st.get _ hh]
 cases mZ x.Person with
 | false=>exact ⟨_,rfl,Bd h⟩
 | true=>exact ⟨_,rfl,h.up hh _,rfl⟩
theorem Xa {x:GEvent} (hh:l9 p x.Name=true):∃ o,((rP N g st qg pe x).bind fun y=>some (y.1,qg,pe,y.2))=some o∧OH p g (Gj A x) o:=by
 unfold rP Gj
 rw [FH (by omega),bS,h.st.get _ hh,wM,uP]
 cases mZ x.Person with
 | false=>exact ⟨_,rfl,Bd h⟩
 | true =>
  cases (decide (x.To≤(A.es x.Name).zF)||decide (1000000<x.To)) with
  | true=>exact ⟨_,rfl,Bd h⟩
  | false=>exact ⟨_,rfl,h.up hh _,rfl⟩
omit hN in
theorem QM {x:GEvent} {k:Int} (hh:l9 p x.Name=true):∃ o,(((gK N g st qg pe x.Name k).bind fun v1=>some (v1,(⟨[],0⟩:ay))).bind fun y=>some (y.1,qg,pe,y.2))=some o∧OH p g (CV (QS A x.Name k)) o:=by
 unfold gK
 rw [h.st.get _ hh]
 exact ⟨_,rfl,h.up hh _,rfl⟩
include hp b hpp ho
theorem RX {x:GEvent} (hh:l9 p x.Name=true):∃ o,((qE N g st qg pe x).bind fun y=>some (y.1,qg,pe,y.2))=some o∧OH p g (Bl p A x) o:=by
 rw [jJ8 hp ho hN h b hpp hh]
 refine ⟨_,rfl,?_,rfl⟩
 simp only []
 unfold Bl
 cases mZ x.Person with
 | false=>exact h
 | true =>
  cases decide (x.Person=(A.es x.Name).AU) with
  | true=>exact h
  | false =>
   simp only [Bool.not_true,mD]
   have hw:=TK (p:=p) (A:=A) (x:=tK p x.Name)
   cases hwy:Eh p A (tK p x.Name) with
   | nil=>exact h.up hh _
   | cons r l =>
    have h0:r.Err≠0:=hw r (by rw [hwy];exact List.mem_cons_self)
    show RelA p A g (outF (xO A r.Err r.Names) _ st).1 qg pe
    rw [Vq h0];exact h
omit ho in
theorem Xb {x:GEvent} (hh:l9 p x.Name=true):∃ o,((qi N g st qg pe x).bind fun y=>some (y.1,qg,pe,y.2))=some o∧OH p g (CW p A x) o:=by
 rw [YH hp hN h b hpp hh]
 refine ⟨_,rfl,?_,rfl⟩
 simp only []
 unfold CW
 simp only []
 cases (decide ((tK p x.Name).Kind=5) && !(nH p A (fun z=>FI z.Locks (tK p x.Name).Name)).isEmpty) with
 | true=>exact h
 | false =>
  rw [mD]
  cases (decide ((tK p x.Name).Kind=1)&&decide (stA A (tK p x.Name).Name=2)&&(yN p (tK p x.Name).Space).dD&&(nH p A (fun z=>decide (z.Kind=1)&&decide (z.Space=(tK p x.Name).Space) && !decide (z.Name=(tK p x.Name).Name))).isEmpty && !(vG A (fun s=>decide (s=(tK p x.Name).Space))).isEmpty) with
  | true=>exact h
  | false=>exact h.up hh _
omit ho hpp b
theorem jXb {x:GEvent}:∃ o,((uF N g st qg pe x).bind fun y=>some (st,y.1,pe,y.2))=some o∧OH p g (Vb p A x) o:=by
 have hs:=hp.s
 unfold uF Vb
 rw [h.b.plan,Gm hp hN,bS]
 simp only [bU,uP]
 cases uY p x.Space with
 | false=>exact ⟨_,rfl,Bd h⟩
 | true =>
  simp only [Bool.not_true,mD]
  cases (decide (x.qx<0)||decide (1000<x.qx)||decide (x.IW<0)||decide (1000<x.IW)) with
  | true=>exact ⟨_,rfl,Bd h⟩
  | false =>
   refine ⟨_,rfl,⟨⟨h.b.plan,h.b.now,fun s=>?_,fun s t e=>?_⟩,h.st,h.pe,h.done⟩,rfl⟩
   ·simp only [mD,CV]
    rw [Ko,h.b.QE]
    cases decide (s=x.Space) <;> rfl
   ·simp only [mD,CV] at e ⊢
    rw [Ho]
    by_cases he:s=x.Space
    ·rw [dT he] at e;cases e;rw [if_pos he,h.b.now]
    ·rw [dF he] at e;rw [if_neg he];exact h.b.QF s t e
theorem jQq {s:Str}:lU N g st qg pe (yN p s)=some (nH p A (fun y=>decide (y.Kind=3)&&decide (lI p y.Space (yN p s).Name≤1))):=by
 have hm:=hp.m
 unfold lU
 rw [Hg (f:=jo N g st qg pe (yN p s)) (A:=A) (so:=fun y=>decide (y.Kind=3)&&decide (lI p y.Space (yN p s).Name≤1)) hp hN (fun i hi acc hacc=>?_) (fun acc=>?_)]
 ·rfl
 ·unfold jo
  simp only []
  rw [h.b.plan,bU,dT (by omega),lW,jK hi,bS,JA hN h.st (Iy hi) (by decide),bS,qX (by omega)]
  have hc:([2]:List Int).contains (stA A p.ak[i].Name)=decide (stA A p.ak[i].Name=2):=by rw [Bool.eq_iff_iff];simp
  have hq:qZ N g st qg pe p.ak[i] (yN p s)=some (decide (p.ak[i].Kind=3)&&decide (lI p p.ak[i].Space (yN p s).Name≤1)):=by
   unfold qZ
   rw [h.b.plan,MN hp hN,jS]
   cases decide (p.ak[i].Kind=3) with
   | false=>rfl
   | true=>simp only [lW,bS,Bool.true_and,wM]
  rw [hc,hq]
  cases decide (stA A p.ak[i].Name=2) <;> rfl
 ·unfold jo
  simp only []
  rw [h.b.plan,bU,dF (by omega),mD]
theorem jQx {x:GEvent}:lV N g st qg pe x=some (nH p A (fun y=>!decide (y.Kind=5)&&decide (lI p y.Space x.Space≤1))):=by
 have hm:=hp.m
 unfold lV
 rw [Hg (f:=jq N g st qg pe x) (A:=A) (so:=fun y=>!decide (y.Kind=5)&&decide (lI p y.Space x.Space≤1)) hp hN (fun i hi acc hacc=>?_) (fun acc=>?_)]
 ·rfl
 ·unfold jq
  simp only []
  rw [h.b.plan,bU,dT (by omega),lW,jK hi,bS,JA hN h.st (Iy hi) (by decide),bS,qX (by omega)]
  have hc:([2]:List Int).contains (stA A p.ak[i].Name)=decide (stA A p.ak[i].Name=2):=by rw [Bool.eq_iff_iff];simp
  have hq:rf N g st qg pe p.ak[i] x=some (!decide (p.ak[i].Kind=5)&&decide (lI p p.ak[i].Space x.Space≤1)):=by
   unfold rf
   rw [h.b.plan,MN hp hN,wu]
   cases (!decide (p.ak[i].Kind=5)) with
   | false=>rfl
   | true=>simp only [lW,bS,Bool.true_and,wM]
  rw [hc,hq]
  cases decide (stA A p.ak[i].Name=2) <;> rfl
 ·unfold jq
  simp only []
  rw [h.b.plan,bU,dF (by omega),mD]
omit hp hN in
theorem NR {n:Str}:qM pe n=Bc A n:=by
 rw [Vt,jJ9 h.pe];rfl
theorem YI {x:GEvent}:∃ o,((sH N g st qg pe x).bind fun y=>some (st,qg,y.1,y.2))=some o∧OH p g (JI p A x) o:=by
 have hs:=hp.s
 unfold sH JI
 rw [FH (by omega),bS,h.b.plan]
 cases mZ x.Person with
 | false=>exact ⟨_,rfl,Bd h⟩
 | true =>
  simp only [Bool.not_true,mD]
  rw [Gm hp hN,bS]
  simp only []
  cases hh:uY p x.Space with
  | false=>exact ⟨_,rfl,Bd h⟩
  | true =>
   have hnm:=(MI hh).2
   simp only [Bool.not_true,mD]
   rw [YG hp hN h,jQq hp hN h,NR h,hnm]
   cases hi:Bc A x.Person with
   | true=>exact ⟨_,rfl,Bd h⟩
   | false =>
    simp only [mD]
    have hx:((bif (yN p x.Space).dD then (some (tu p A x.Space)) else some false).bind fun v6=>(some (((yN p x.Space).dD&&(!v6))):Option Bool))=some ((yN p x.Space).dD && !tu p A x.Space):=by
     cases (yN p x.Space).dD <;> rfl
    have hx2:∀ (F:Bool→Option (List (Str×Str)×ay)),((bif (yN p x.Space).dD then (some (tu p A x.Space)) else some false).bind fun v6=>F ((yN p x.Space).dD&&(!v6)))=F ((yN p x.Space).dD && !tu p A x.Space):=by
     intro F;cases (yN p x.Space).dD <;> rfl
    rw [hx2 (fun c=>bif c then _ else _)]
    cases ((yN p x.Space).dD && !tu p A x.Space) with
    | true=>exact ⟨_,rfl,Bd h⟩
    | false =>
     simp only [mD,bS,gt0]
     cases (!(nH p A (fun y=>decide (y.Kind=3)&&decide (lI p y.Space x.Space≤1))).isEmpty) with
     | true=>exact ⟨_,rfl,Bd h⟩
     | false =>
      refine ⟨_,rfl,⟨⟨h.b.plan,h.b.now,h.b.QE,h.b.QF⟩,h.st,?_,h.done⟩,rfl⟩
      show (uj pe x.Person x.Space).Perm (Ku A.pp x.Person x.Space)
      rw [Vs (by rw [NR h];exact hi)]
      exact (List.perm_append_singleton _ _).trans ((h.pe.cons _).trans Vu.symm)
include hpp
omit hp in
theorem YJ {x:GEvent}:∃ o,((sJ N g st qg pe x).bind fun y=>some (st,qg,y.1,y.2))=some o∧OH p g (JH A x) o:=by
 unfold sJ JH
 rw [FH (by omega),bS,NR h]
 cases mZ x.Person with
 | false=>exact ⟨_,rfl,Bd h⟩
 | true =>
  cases Bc A x.Person with
  | false=>exact ⟨_,rfl,Bd h⟩
  | true =>
   refine ⟨_,rfl,⟨⟨h.b.plan,h.b.now,h.b.QE,h.b.QF⟩,h.st,?_,h.done⟩,rfl⟩
   show (Jg pe x.Person).Perm (A.pp.filter fun q=>!decide (q.1=x.Person))
   rw [Ot]
   ·exact h.pe.filter _
   ·exact ((h.pe.map _).nodup_iff).2 (jQj hpp)
omit hpp
include ho
theorem YK {x:GEvent}:∃ o,((sK N g st qg pe x).bind fun y=>some (y.1,qg,pe,y.2))=some o∧OH p g (JG p A x) o:=by
 have hs:=hp.s
 have hm:=hp.m
 unfold sK JG
 rw [h.b.plan,Gm hp hN,bS]
 simp only []
 cases uY p x.Space with
 | false=>exact ⟨_,rfl,Bd h⟩
 | true =>
  simp only [Bool.not_true,mD]
  rw [jQx hp hN h,bS]
  have hmem:∀ s ∈ nH p A (fun y=>!decide (y.Kind=5)&&decide (lI p y.Space x.Space≤1)),l9 p s=true:=by
   intro s hs
   unfold nH at hs
   obtain ⟨y,hy,rfl⟩:=List.mem_map.1 hs
   exact zL.2 ⟨y,(List.mem_filter.1 hy).1,rfl⟩
  have hlen:(nH p A (fun y=>!decide (y.Kind=5)&&decide (lI p y.Space x.Space≤1))).length≤p.ak.length:=by
   unfold nH;rw [List.length_map];exact List.length_filter_le _ _
  have hin:∀ s,l9 p s=true→FI (nH p A (fun y=>!decide (y.Kind=5)&&decide (lI p y.Space x.Space≤1))) s=(l9 p s&&decide (stA A s=2)&&(!decide ((tK p s).Kind=5)&&decide (lI p (tK p s).Space x.Space≤1))):=by
   intro s hs
   rw [hs,Bool.true_and,Bool.eq_iff_iff,jXu]
   unfold nH
   rw [List.mem_map]
   constructor
   ·rintro ⟨y,hy,rfl⟩
    obtain ⟨hy1,hy2⟩:=List.mem_filter.1 hy
    rw [ho.Fq hy1];exact hy2
   ·intro hb
    obtain ⟨h1,h2⟩:=AA hs
    refine ⟨tK p s,List.mem_filter.2 ⟨h1,?_⟩,h2⟩
    rw [h2];exact hb
  generalize nH p A (fun y=>!decide (y.Kind=5)&&decide (lI p y.Space x.Space≤1))=L at hmem hlen hin
  have key:∃ st',dX (nM N g qg pe L) N (0,st)=some st'∧QD p (fun n=>bif FI L n then ({ A.es n with state:=3 }:ah) else A.es n) st':=by
   refine JB (N:=N) (n:=L.length) (f:=nM N g qg pe L) (s0:=(0,st)) (fun i s=>s.1=(i:Int)∧QD p (fun n=>bif FI (L.take i) n then ({ A.es n with state:=3 }:ah) else A.es n) s.2) (fun st'=>QD p (fun n=>bif FI L n then ({ A.es n with state:=3 }:ah) else A.es n) st') ⟨rfl,h.st.congr fun s _=>by unfold FI;simp⟩ (fun i s hi hs=>?_) (fun s hs=>?_) (by omega)
   ·obtain ⟨s1,st'⟩:=s
    obtain ⟨rfl,hr⟩:=hs
    simp only [] at hr
    have hn:=hmem _ (List.getElem_mem hi)
    refine ⟨_,by unfold nM gK;simp only [];rw [bU,dT (by omega),lW,jK hi,bS,bS,qX (by omega)],rfl,?_⟩
    refine (hr.set hn _).congr fun s hs=>?_
    simp only []
    rw [hr.get _ hn]
    have htk:FI (L.take (i+1)) s=(FI (L.take i) s||decide (s=L[i])):=by
     unfold FI;rw [List.take_succ_eq_append_getElem hi,List.any_append];simp
    rw [htk]
    by_cases he:s=L[i]
    ·subst he
     rw [dT rfl,Bool.or_true,lW,lW]
     cases FI (L.take i) L[i] <;> rfl
    ·rw [dF he,Bool.or_false];rfl
   ·obtain ⟨s1,st'⟩:=s
    obtain ⟨rfl,hr⟩:=hs
    refine ⟨st',?_,?_⟩
    ·unfold nM
     simp only []
     rw [bU,dF (by omega),mD]
    ·rw [List.take_length] at hr;exact hr
  obtain ⟨st',h1,h2⟩:=key
  rw [h1]
  refine ⟨_,rfl,⟨⟨h.b.plan,h.b.now,h.b.QE,h.b.QF⟩,h2.congr fun s hs=>?_,h.pe,h.done⟩,rfl⟩
  show _=(bif l9 p s&&decide (stA A s=2)&&(!decide ((tK p s).Kind=5)&&decide (lI p (tK p s).Space x.Space≤1)) then ({ A.es s with state:=3 }:ah) else A.es s)
  rw [hin s hs]
end
end Go.KB
namespace Go.KB
set_option linter.unusedVariables false
instance:Inhabited bT:=⟨⟨[],[],[],none⟩⟩
def TU:List bT:=(yJ 0).getD []
theorem jQz {N:Nat}:yJ N=some TU:=rfl
def AQ (op:Int):bT:=TU[op.toNat]!
theorem Hl {op:Int} (h0:0≤op) (h12:op<12):op=0∨op=1∨op=2∨op=3∨op=4∨op=5∨op=6∨op=7∨op=8∨op=9∨op=10∨op=11:=by omega
theorem jQv {op:Int} (h0:0≤op) (h12:op<12):idx TU op=some (AQ op):=by
 rcases Hl h0 h12 with h | h | h | h | h | h | h | h | h | h | h | h <;> subst h <;> rfl
theorem Vx {op:Int} (h0:0≤op) (h12:op<12):(AQ op).states=(yD op).getD []:=by
 rcases Hl h0 h12 with h | h | h | h | h | h | h | h | h | h | h | h <;> subst h <;> rfl
theorem YL {op:Int} {l:List Int} (h:yD op=some l):l.isEmpty=false∧l.length<100:=by
 unfold yD at h
 repeat' split at h
 all_goals first | (cases h;exact ⟨rfl,by decide⟩) | cases h
section
variable {N:Nat} {p:GPermitPlan} {A:AO} {g:ai} {st:List (Str×ah)} {qg:List (Str×au)} {pe:List (Str×Str)} (hp:FW p) (ho:EQ p) (hN:1000000≤N) (h:RelA p A g st qg pe) (b:IL A) (hpp:A.pp.Pairwise (fun a b=>a.1<b.1))
include hp hN h b hpp ho
theorem jQk {x:GEvent} (h0:0≤x.Op) (h12:x.Op<12) (hh:yD x.Op≠none→l9 p x.Name=true):∃ o,Ia N g st qg pe (AQ x.Op).Ri x=some o∧OH p g (xN p A x) o:=by
  unfold Ia xN
  rcases Hl h0 h12 with e | e | e | e | e | e | e | e | e | e | e | e
  · have hd : (AQ x.Op).Ri = some 125 := by rw [e]; rfl
    rw [hd];simp only [e,Option.some.injEq,Nat.reduceEqDiff,decide_false,decide_true,mD,lW,if_false,Int.reduceEq]
    exact ⟨_,rfl,h,rfl⟩
  · have hd : (AQ x.Op).Ri = some 126 := by rw [e]; rfl
    have hx:=hh (by rw [e];decide)
    rw [hd];simp only [e,Option.some.injEq,Nat.reduceEqDiff,decide_false,decide_true,mD,lW,if_false,Int.reduceEq]
    exact Vw hN h hx
  · have hd : (AQ x.Op).Ri = some 127 := by rw [e]; rfl
    have hx:=hh (by rw [e];decide)
    rw [hd];simp only [e,Option.some.injEq,Nat.reduceEqDiff,decide_false,decide_true,mD,lW,if_false,Int.reduceEq]
    exact RX hp ho hN h b hpp hx
  · have hd : (AQ x.Op).Ri = some 128 := by rw [e]; rfl
    have hx:=hh (by rw [e];decide)
    rw [hd];simp only [e,Option.some.injEq,Nat.reduceEqDiff,decide_false,decide_true,mD,lW,if_false,Int.reduceEq]
    exact QM h hx
  · have hd : (AQ x.Op).Ri = some 127 := by rw [e]; rfl
    have hx:=hh (by rw [e];decide)
    rw [hd];simp only [e,Option.some.injEq,Nat.reduceEqDiff,decide_false,decide_true,mD,lW,if_false,Int.reduceEq]
    exact RX hp ho hN h b hpp hx
  · have hd : (AQ x.Op).Ri = some 129 := by rw [e]; rfl
    have hx:=hh (by rw [e];decide)
    rw [hd];simp only [e,Option.some.injEq,Nat.reduceEqDiff,decide_false,decide_true,mD,lW,if_false,Int.reduceEq]
    exact Xb hp hN h b hpp hx
  · have hd : (AQ x.Op).Ri = some 130 := by rw [e]; rfl
    have hx:=hh (by rw [e];decide)
    rw [hd];simp only [e,Option.some.injEq,Nat.reduceEqDiff,decide_false,decide_true,mD,lW,if_false,Int.reduceEq]
    exact QM h hx
  · have hd : (AQ x.Op).Ri = some 131 := by rw [e]; rfl
    rw [hd];simp only [e,Option.some.injEq,Nat.reduceEqDiff,decide_false,decide_true,mD,lW,if_false,Int.reduceEq]
    exact jXb hp hN h
  · have hd : (AQ x.Op).Ri = some 132 := by rw [e]; rfl
    rw [hd];simp only [e,Option.some.injEq,Nat.reduceEqDiff,decide_false,decide_true,mD,lW,if_false,Int.reduceEq]
    exact YI hp hN h
  · have hd : (AQ x.Op).Ri = some 133 := by rw [e]; rfl
    rw [hd];simp only [e,Option.some.injEq,Nat.reduceEqDiff,decide_false,decide_true,mD,lW,if_false,Int.reduceEq]
    exact YJ hN h hpp
  · have hd : (AQ x.Op).Ri = some 134 := by rw [e]; rfl
    rw [hd];simp only [e,Option.some.injEq,Nat.reduceEqDiff,decide_false,decide_true,mD,lW,if_false,Int.reduceEq]
    exact YK hp ho hN h
  · have hd : (AQ x.Op).Ri = some 135 := by rw [e]; rfl
    have hx:=hh (by rw [e];decide)
    rw [hd];simp only [e,Option.some.injEq,Nat.reduceEqDiff,decide_false,decide_true,mD,lW,if_false,Int.reduceEq]
    exact Xa hN h hx
end
theorem RelA.setNow {p:GPermitPlan} {A:AO} {g:ai} {st:List (Str×ah)} {qg:List (Str×au)} {pe:List (Str×Str)} (h:RelA p A g st qg pe) (t:Int):RelB p { A with now:=t } ({ g with now:=t }:ai) qg:=⟨h.b.plan,rfl,h.b.QE,h.b.QF⟩
def NS (p:GPermitPlan) (A:AO) (x:GEvent) (G:AO×List Str×Int):AO×List Str×Int:=bif decide (G.2.2=0) then (({ iy p G.1 with done:=A.done ++ [x] }:AO),[],0) else G
theorem Vy {p:GPermitPlan} {A S:AO} {x:GEvent} {e:Int} {l:List Str} (he:e≠0):NS p A x (xO S e l)=xO S e l:=by
 unfold NS xO
 simp only []
 rw [dF he];rfl
theorem Vz {p:GPermitPlan} {A:AO} {x:GEvent} {G:AO×List Str×Int} (he:G.2.2≠0):NS p A x G=G:=by
 unfold NS;rw [dF he];rfl
theorem XV {p:GPermitPlan} {A:AO} {x:GEvent} {G:AO×List Str×Int} (he:G.2.2=0):NS p A x G=(({ iy p G.1 with done:=A.done ++ [x] }:AO),[],0):=by
 unfold NS;rw [dT he];rfl
theorem Do_eq {N:Nat} {p:GPermitPlan} {A:AO} {g:ai} {st:List (Str×ah)} {qg:List (Str×au)} {pe:List (Str×Str)} (hp:FW p) (ho:EQ p) (hN:1000000≤N) (h:RelA p A g st qg pe) (hi:Vf p A) (hd:A.done.length<999999) (x:GEvent) :
    ∃ g' st' Lj WN,pq N g st qg pe x=some (g',st',Lj,WN,(OX p A x).2.1,(OX p A x).2.2)∧RelA p (OX p A x).1 g' st' Lj WN:=by
  have hlim:lim ≥ 10000000:=by decide
  have hm:=hp.m
  obtain ⟨gp,gn,gd⟩:=g
  have hg:p=gp:=h.b.plan.symm
  have hgn:gn=A.now:=h.b.now
  have hgd:gd=A.done:=h.done
  subst hg hgn hgd
  unfold pq OX
  rw [jQz,bS]
  have hlen:(TU.length:Int)=12:=rfl
  rw [hlen,bU,CU]
  by_cases hr:x.Op<0∨12≤x.Op∨x.At<0∨1000000<x.At
  · have hr' : (decide (x.Op < 0) || decide (12 ≤ x.Op) || decide (x.At < 0) || decide (1000000 < x.At)) = true := by simpa [or_assoc] using hr
    rw [hr',lW]
    refine ⟨⟨p,A.now,A.done⟩,st,qg,pe,?_,h⟩
    unfold xZ
    rw [CU,wM]
    cases hc:(decide (x.Op<0)||decide (12≤x.Op)) with
    | true=>rfl
    | false =>
      simp only [Bool.not_false,lW,bS,Bool.false_or]
      have:(decide (0≤x.At)&&decide (x.At≤1000000))=false:=by
        rw [Bool.or_eq_false_iff,decide_eq_false_iff_not,decide_eq_false_iff_not] at hc
        rw [Bool.and_eq_false_iff,decide_eq_false_iff_not,decide_eq_false_iff_not];omega
      rw [this];rfl
  · have hr' : (decide (x.Op < 0) || decide (12 ≤ x.Op) || decide (x.At < 0) || decide (1000000 < x.At)) = false := by simp; omega
    rw [hr',mD]
    have hop:(decide (x.Op<0)||decide (12≤x.Op))=false:=by simp;omega
    have htm:xZ N x.At=some true:=by
      unfold xZ;rw [CU,wM,dT (by omega),dT (by omega)];rfl
    rw [hop,htm]
    simp only [Bool.not_false,lW,bS,Bool.not_true,Bool.or_self,mD,bU]
    by_cases hlt:x.At<A.now
    · rw [dT hlt];exact ⟨⟨p,A.now,A.done⟩,st,qg,pe,rfl,h⟩
    rw [dF hlt,mD,mD]
    have hw0:=hi.w
    have hw:WA p A.done { A with now:=x.At }:=hw0.le (fun s=>.inl rfl) (fun _=>rfl) ⟨by show A.now≤x.At;omega,by show x.At≤1000000;omega⟩ hw0.pp (fun s t e=>.inl e) hw0.pl
    have hb0:IL { A with now:=x.At }:=hw.bd (by omega)
    obtain ⟨st1,e1,r1⟩:=NQ (pe:=pe) hp ho hN (h.setNow x.At) h.st hb0
    rw [e1,bS,jQv (by omega) (by omega),bS,Vx (by omega) (by omega)]
    have hS:RelA p (iy p { A with now:=x.At }) (⟨p,x.At,A.done⟩:ai) st1 qg pe:=⟨⟨rfl,rfl,h.b.QE,h.b.QF⟩,r1,h.pe,h.done⟩
    have hbS:IL (iy p { A with now:=x.At }):=hb0.settle
    have hiS:Vf p (iy p { A with now:=x.At }):=FD ho hw
    have hact:∀ (G:AO×List Str×Int),(∃ o,Ia N (⟨p,x.At,A.done⟩:ai) st1 qg pe (AQ x.Op).Ri x=some o∧OH p (⟨p,x.At,A.done⟩:ai) G o)→StepA p (iy p { A with now:=x.At }) x G→∃ g' st' Lj WN,((Ia N (⟨p,x.At,A.done⟩:ai) st1 qg pe (AQ x.Op).Ri x).bind fun v14=>bif (aG .neq v14.2.2.2.e 0) then (some ((⟨p,x.At,A.done⟩:ai),v14.1,v14.2.1,v14.2.2.1,v14.2.2.2.names,v14.2.2.2.e)) else ((nG N (⟨p,x.At,A.done⟩:ai) v14.1 v14.2.1 v14.2.2.1).bind fun v15=>(app A.done [x]).bind fun v16=>some ((⟨p,x.At,v16⟩:ai),v15,v14.2.1,v14.2.2.1,([]:List Str),(0:Int))))=some (g',st',Lj,WN,(NS p A x G).2.1,(NS p A x G).2.2)∧RelA p (NS p A x G).1 g' st' Lj WN:=by
      rintro G ⟨⟨a1,a2,a3,a4⟩,ho1,ho2⟩ hstep
      rw [ho1,bS]
      have hrel:=ho2.rel
      have href:a4=⟨G.2.1,G.2.2⟩:=ho2.ref
      simp only [] at hrel
      subst href
      simp only [wu]
      by_cases h0:G.2.2=0
      · rw [dT h0,XV h0]
        simp only [Bool.not_true,mD]
        have hw2:=hstep.2.1 _ hiS.w
        have hdn:(iy p { A with now:=x.At }).done=A.done:=rfl
        have hb2:IL G.1:=hw2.bd (by rw [List.length_append,hdn];simp only [List.length_singleton];omega)
        obtain ⟨st2,e2,r2⟩:=NQ (pe:=a3) hp ho hN hrel.b hrel.st hb2
        rw [e2,bS,A7 (by simp only [List.length_singleton];omega),bS]
        exact ⟨_,_,_,_,rfl,⟨hrel.b.plan,hrel.b.now,hrel.b.QE,hrel.b.QF⟩,r2,hrel.pe,rfl⟩
      · rw [dF h0,Vz h0]
        exact ⟨_,_,_,_,rfl,hrel⟩
    have Oj:=fun hh=>jQk hp ho hN hS hbS hiS.w.pp (x:=x) (by omega) (by omega) hh
    have hstep:=ML ho (A:=iy p { A with now:=x.At }) (x:=x) (by omega) (by omega)
    show ∃ g' st' Lj WN,_=some (g',st',Lj,WN,(NS p A x (yh p (iy p { A with now:=x.At }) x)).2.1,(NS p A x (yh p (iy p { A with now:=x.At }) x)).2.2)∧RelA p (NS p A x (yh p (iy p { A with now:=x.At }) x)).1 g' st' Lj WN
    unfold yh at hstep ⊢
    cases hs:yD x.Op with
    | none =>
      rw [hs] at hstep
      simp only [Option.getD_none,List.isEmpty_nil,Bool.not_true,mD,bS,Sum.elim_inl]
      exact hact _ (Oj fun hn=>absurd hs hn) hstep
    | some l =>
      rw [hs] at hstep
      obtain ⟨hl1,hl2⟩:=YL hs
      simp only [Option.getD_some,hl1,Bool.not_false,lW] at hstep ⊢
      rw [TT hp hN,bS]
      simp only []
      cases hh:l9 p x.Name with
      | false=>simp only [Bool.not_false,lW];rw [Vy (by decide)];exact ⟨_,_,_,_,rfl,hS⟩
      | true =>
        rw [hh] at hstep
        simp only [Bool.not_true,mD] at hstep ⊢
        rw [JA hN r1 hh hl2,bS]
        cases hc:l.contains (stA (iy p { A with now:=x.At }) x.Name) with
        | false=>simp only [Bool.not_false,lW];rw [Vy (by decide)];exact ⟨_,_,_,_,rfl,hS⟩
        | true =>
          rw [hc] at hstep
          simp only [Bool.not_true,mD,bS,Sum.elim_inl] at hstep ⊢
          exact hact _ (Oj fun _=>hh) hstep
end Go.KB
namespace Go.KB
set_option linter.unusedVariables false
theorem fit_eq {N:Nat} (p:GPermitPlan) (hN:1000000≤N):Ar N p=some false∨(Ar N p=some true∧FW p∧yO p=0∧p.bM.length≤8∧p.ak.length≤8∧p.dY.length≤12):=by
 unfold Ar
 rcases jJ4 p hN with hg | ⟨hg,hp,_⟩
 ·rw [hg];exact .inl rfl
 ·rw [hg,bS,Bool.not_false,lW,Q8 hp hN,bS,Bool.true_and]
  simp only [jS,wM]
  by_cases h:yO p=0∧p.bM.length≤8∧p.ak.length≤8∧p.dY.length≤12
  ·refine .inr ⟨?_,hp,h⟩
   rw [dT h.1,dT (by omega),dT (by omega),dT (by omega)];rfl
  ·refine .inl ?_
   congr 1
   rw [Bool.eq_false_iff]
   intro hx
   simp only [Bool.and_eq_true,decide_eq_true_eq] at hx
   exact h (by omega)
section
variable {N:Nat} {p:GPermitPlan} {A:AO} {g:ai} {st:List (Str×ah)} {qg:List (Str×au)} {pe:List (Str×Str)}
theorem U8 (h:RelA p A g st qg pe) {n:Str}:nP N g st qg pe n=some (bif l9 p n then (stA A n,0) else (0,6)):=by
 unfold nP
 rw [h.st.has]
 cases hh:l9 p n with
 | false=>rfl
 | true=>rw [h.st.get _ hh];rfl
theorem jQ8 (hp:FW p) (hN:1000000≤N) (h:RelA p A g st qg pe):pU N g st qg pe=some (nH p A fun _=>true):=by
 unfold pU
 rw [O3 hp hN h (φ:=fun y0=>pR N y0) (so:=fun _=>true) (fun _ _=>rfl)];rfl
theorem XK (hp:FW p) (hN:1000000≤N) (h:RelA p A g st qg pe) (b:IL A) {s:Str}:pO N g st qg pe s=some (bif uY p s then (Og p A s,Oh p A s,0) else (false,false,6)):=by
 unfold pO
 rw [h.b.plan,Gm hp hN,bS,XP hp hN h.b b]
 cases uY p s <;> rfl
end
theorem do_done {p:GPermitPlan} (ho:EQ p) {A:AO} {x:GEvent}:(OX p A x).1.done.length≤A.done.length+1:=by
  unfold OX
  by_cases hr:x.Op<0∨12≤x.Op∨x.At<0∨1000000<x.At
  · have hr' : (decide (x.Op < 0) || decide (12 ≤ x.Op) || decide (x.At < 0) || decide (1000000 < x.At)) = true := by simpa [or_assoc] using hr
    rw [hr'];exact Nat.le_succ _
  · have hr' : (decide (x.Op < 0) || decide (12 ≤ x.Op) || decide (x.At < 0) || decide (1000000 < x.At)) = false := by simp; omega
    rw [hr',mD]
    cases decide (x.At<A.now) with
    | true=>exact Nat.le_succ _
    | false =>
      obtain ⟨_,_,_,s4,_⟩:=ML ho (A:=iy p { A with now:=x.At }) (x:=x) (by omega) (by omega)
      show (NS p A x (yh p (iy p { A with now:=x.At }) x)).1.done.length≤_
      by_cases h0:(yh p (iy p { A with now:=x.At }) x).2.2=0
      · rw [XV h0];show (A.done ++ [x]).length≤_;simp
      · rw [Vz h0,s4];exact Nat.le_succ _
structure U7 (p:GPermitPlan) (i:Nat) (A:AO) (g:ai) (st:List (Str×ah)) (qg:List (Str×au)) (pe:List (Str×Str)):Prop where
 rel:RelA p A g st qg pe
 inv:Vf p A
 len:A.done.length≤i
theorem U7.bd {p:GPermitPlan} {i:Nat} {A:AO} {g:ai} {st:List (Str×ah)} {qg:List (Str×au)} {pe:List (Str×Str)} (h:U7 p i A g st qg pe) (hi:i<1000000):IL A:=h.inv.w.bd (Nat.lt_of_le_of_lt h.len hi)
theorem jQ6 {N:Nat} {p:GPermitPlan} (hp:FW p) (ho:yO p=0) (hN:1000000≤N):∃ st,wJ N p=some (some ((⟨p,0,[]⟩:ai),st,[],[]),0)∧U7 p 0 (Qk p) (⟨p,0,[]⟩:ai) st [] []:=by
 obtain ⟨st,h1,h2⟩:=New_eq hp ho hN
 exact ⟨st,h1,h2,jXw (okP ho),Nat.le_refl _⟩
theorem run_do {N:Nat} {p:GPermitPlan} {i:Nat} {A:AO} {g:ai} {st:List (Str×ah)} {qg:List (Str×au)} {pe:List (Str×Str)} (hp:FW p) (ho:EQ p) (hN:1000000≤N) (h:U7 p i A g st qg pe) (hi:i<1000) (x:GEvent) :
  ∃ g' st' Lj WN,pq N g st qg pe x=some (g',st',Lj,WN,(OX p A x).2.1,(OX p A x).2.2)∧U7 p (i+1) (OX p A x).1 g' st' Lj WN:=by
 have hl:=h.len
 obtain ⟨g',st',Lj,WN,h1,h2⟩:=Do_eq hp ho hN h.rel h.inv (by omega) x
 exact ⟨g',st',Lj,WN,h1,h2,(inv_do ho h.inv).1,Nat.le_trans (do_done ho) (by omega)⟩
end Go.KB
