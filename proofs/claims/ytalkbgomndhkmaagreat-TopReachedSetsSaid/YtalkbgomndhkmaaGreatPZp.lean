/- Plain laws of chapter 7: why a permit is not opened. Plain laws of chapter 7: the people in the spaces, in the order of their names. Plain laws of chapter 7: what the program's office does. Plain laws of chapter 7: each event in the program's office. Plain laws of chapter 7: the program's office does what the office by names does. Plain laws of chapter 7: the examples. Plain laws of chapter 7: what the statements share. No condition. -/
import Derived.Test.YtalkbgomndhkmaaGreatPZn
import Derived.Test.YtalkbgomndhkmaaGreatGPure
import Derived.ProofKit
namespace Go.KB
set_option linter.unusedVariables false
def QT {S R:Type} (Y:S→R→Option (S×Bool)):List R→S→Option S
 | [],s=>some s
 | r :: l,s=>(Y s r).bind fun v=>bif v.2 then QT Y l v.1 else some v.1
theorem yloop {S:Type} {N:Nat} {Y:S→bP→Option (S×Bool)} {l:List bP} {s:S} (hl:l.length<1000) (hN:1000000≤N):((bW (fH N Y l) N (0,s)).bind fun UH=>Sum.elim (fun l17=>some l17) (fun Yz=>some Yz) UH)=QT Y (l.filter fun r=>!r.Names.isEmpty) s:=by
 have key:∀ k i s,i+k=l.length→∀ M,k<M→((bW (fH N Y l) M ((i:Int),s)).bind fun UH=>Sum.elim (fun l17=>some l17) (fun Yz=>some Yz) UH)=QT Y ((l.drop i).filter fun r=>!r.Names.isEmpty) s:=by
  intro k
  induction k with
  | zero =>
   intro i s hi M hM
   obtain ⟨M,rfl⟩:∃ m,M=m+1:=⟨M - 1,by omega⟩
   have:i=l.length:=by omega
   subst this
   have e:fH N Y l ((l.length:Int),s)=some (.inr (Sum.inl s)):=by
    unfold fH
    simp only []
    rw [bH,dF (by omega),kC]
   simp only [bW,e,List.drop_length];rfl
  | succ k ih =>
   intro i s hi M hM
   obtain ⟨M,rfl⟩:∃ m,M=m+1:=⟨M - 1,by omega⟩
   have hil:i<l.length:=by omega
   have e:fH N Y l ((i:Int),s)=bif !l[i].Names.isEmpty then (Y s l[i]).bind (fun v=>bif v.2 then some (.inl (((i+1:Nat):Int),v.1)) else some (.inr (.inr v.1))) else some (.inl (((i+1:Nat):Int),s)):=by
    unfold fH
    simp only []
    rw [bH,dT (by omega),lJ,iW hil,bS,gt0,oG (by omega)]
    cases l[i].Names.isEmpty with
    | true=>rfl
    | false =>
     simp only [Bool.not_false,lJ,Bool.true_and]
     congr 1
     funext v
     cases v.2 <;> rfl
   simp only [bW,e]
   rw [drop_at hil,List.filter_cons]
   cases hn:l[i].Names.isEmpty with
   | true=>simp only [Bool.not_true,kC];exact ih (i+1) s (by omega) M (by omega)
   | false =>
    simp only [Bool.not_false,lJ,if_true,QT]
    cases hy:Y s l[i] with
    | none=>rfl
    | some v =>
     simp only [bS]
     cases hv:v.2 with
     | false=>rfl
     | true=>simp only [lJ];exact ih (i+1) v.1 (by omega) M (by omega)
 simpa using key l.length 0 s (by omega) N (by omega)
theorem FO {p:GPermitPlan} {A:AO} {N:Nat} {f:(List Str×Int)→Option ((List Str×Int) ⊕ List Str)} {so:aA→Bool} (hp:Eh p) (hN:1000000≤N) (hf:∀ (i:Nat) (hi:i<p.ai.length) (acc:List Str),acc.length<1000000→f (acc,(i:Int))=bif decide (stA A p.ai[i].Name=2)&&so p.ai[i] then ((app acc [p.ai[i].Name]).bind fun v=>some (.inl (v,((i+1:Nat):Int)))) else some (.inl (acc,((i+1:Nat):Int)))) (he:∀ acc,f (acc,(p.ai.length:Int))=some (.inr acc)):bW f N ([],0)=some (mr p A so):=by
 have hm:=hp.m
 have hlim:lim ≥ 10000000:=by decide
 rw [Ia (f:=f) p.ai [] (fun x=>decide (stA A x.Name=2)&&so x) (fun x=>x.Name) (fun a i=>(a,i)) (fun a=>a) (fun i hi acc hacc=>?_) he (by omega)]
 ·rfl
 ·simp only [List.length_nil] at hacc
  rw [hf i hi acc (by omega)]
  cases (decide (stA A p.ai[i].Name=2)&&so p.ai[i]) with
  | false=>rfl
  | true=>simp only [lJ];rw [Cc (by simp only [List.length_singleton];omega)];rfl
section
variable {N:Nat} {p:GPermitPlan} {A:AO} {g:ah} {st:List (Str×af)} {jA:List (Str×aj)} {pe:List (Str×Str)} (hp:Eh p) (ho:FB p) (hN:1000000≤N) (h:RelA p A g st jA pe) (b:LY A)
include hp hN h
theorem Ya {x:aA}:iY N g st jA pe x=some (mr p A fun y=>oW p y x):=by
 have hm:=hp.m
 unfold iY
 rw [FO (f:=fZ N g st jA pe x) (A:=A) (so:=fun y=>oW p y x) hp hN (fun i hi acc hacc=>?_) (fun acc=>?_)]
 ·rfl
 ·unfold fZ
  simp only []
  rw [h.b.plan,bH,dT (by omega),lJ,iW hi,bS,GH hN h.st (FN hi) (by decide),bS,oG (by omega)]
  have hc:([2]:List Int).contains (stA A p.ai[i].Name)=decide (stA A p.ai[i].Name=2):=by rw [Bool.eq_iff_iff];simp
  have hq:lC N g st jA pe p.ai[i] x=some (oW p p.ai[i] x):=by
   unfold lC
   rw [h.b.plan,JC hp hN];rfl
  rw [hc,hq]
  cases decide (stA A p.ai[i].Name=2) with
  | false=>rfl
  | true=>rfl
 ·unfold fZ
  simp only []
  rw [h.b.plan,bH,dF (by omega),kC]
end
end Go.KB
namespace Go.KB
set_option linter.unusedVariables false
theorem Vy (a b c:Str) (h1:a≤b) (h2:b≤c):a≤c:=List.le_trans h1 h2
theorem Vz (a b:Str):a≤b∨b≤a:=List.le_total a b
theorem Pg (a b:Str) (h1:a≤b) (h2:b≤a):a=b:=Std.Antisymm.antisymm (r:=(· ≤ ·)) a b h1 h2
theorem slt_le {a b:Str} (h:a<b):a≤b:=List.le_of_lt h
theorem Ph {l m:List Str} (hp:l.Perm m) (hs:m.Pairwise (fun a b=>a<b)):DU l=m:=by
 unfold DU
 refine List.Perm.eq_of_pairwise (le:=fun a b:Str=>a≤b) (fun a b _ _ h1 h2=>Pg a b h1 h2) ?_ (hs.imp fun h=>slt_le h) ((List.mergeSort_perm _ _).trans hp)
 have:=List.pairwise_mergeSort (le:=fun x y:Str=>decide (x≤y)) (fun a b c h1 h2=>decide_eq_true (Vy a b c (of_decide_eq_true h1) (of_decide_eq_true h2))) (fun a b=>by
  rcases Vz a b with h | h <;> simp [h]) l
 exact this.imp fun h=>of_decide_eq_true h
theorem VA {f:List Str→(Str×Str)→Option (List Str)} {so:Str→Bool} (π:List (Str×Str)) (hf:∀ acc q,q ∈ π→acc.length<1000000→f acc q=some (bif so q.2 then acc ++ [q.1] else acc)):∀ acc,acc.length+π.length<1000000→IK f π acc=some (acc ++ (π.filter fun q=>so q.2).map fun q=>q.1):=by
 induction π with
 | nil=>intro acc _;simp [IK]
 | cons q r ih =>
  intro acc h
  simp only [List.length_cons] at h
  unfold IK
  rw [hf acc q List.mem_cons_self (by omega),bS,ih (fun acc q hq=>hf acc q (List.mem_cons_of_mem _ hq)) _ (by cases so q.2 <;> simp <;> omega),List.filter_cons]
  cases so q.2 <;> simp
theorem QU {A : AO} {pe : List (Str × Str)} {f : List Str → (Str × Str) → Option (List Str)} {so : Str → Bool} (hpe : pe.Perm A.pp) (hpp : A.pp.Pairwise (fun a b => a.1 < b.1)) (hl : A.pp.length < 1000000) (hf : ∀ acc q, q ∈ pe → acc.length < 1000000 → f acc q = some (bif so q.2 then acc ++ [q.1] else acc)) :
    (Gp pe fun q=>(IK f q []).bind fun s=>(NJ s).bind fun v=>some v)=some (zo A so):=by
  refine UO fun π hπ=>?_
  have hp:π.Perm A.pp:=hπ.trans hpe
  have hlen:π.length=A.pp.length:=hp.length_eq
  rw [VA (so:=so) π (fun acc q hq h=>hf acc q (hπ.mem_iff.1 hq) h) [] (by simp;omega),bS,List.nil_append]
  have hs:NJ ((π.filter fun q=>so q.2).map fun q=>q.1)=some (zo A so):=by
    unfold NJ
    have h1:((π.filter fun q=>so q.2).map fun q=>q.1).length≤1000000:=by
      rw [List.length_map];have:=List.length_filter_le (fun q:Str×Str=>so q.2) π;omega
    rw [Nat.ble_eq_true_of_le h1,lJ]
    congr 1
    refine Ph ((hp.filter _).map _) ?_
    unfold zo
    rw [List.pairwise_map]
    exact List.Pairwise.filter _ hpp
  rw [hs];rfl
end Go.KB
namespace Go.KB
set_option linter.unusedVariables false
theorem ne0 {α:Type} {l:List α}:aS .eql (List.length l:Int) 0=l.isEmpty:=by
 rw [pW]
 cases l with
 | nil=>rfl
 | cons x r=>simp;omega
def Yb (R:AO×List Str×Int) (a b:List (Str×af)):List (Str×af)×ak:=(bif decide (R.2.2=0) then a else b,⟨R.2.1,R.2.2⟩)
theorem QV {A:AO} {e:Int} {l:List Str} {a b:List (Str×af)} (he:e≠0):Yb (uq A e l) a b=(b,⟨l,e⟩):=by
 show ((bif decide (e=0) then a else b),(⟨l,e⟩:ak))=_
 rw [dF he];rfl
theorem Ti {l:List bP} {g:ak→bP→Option (ak×Option Nat)} (hg:∀ s r,g s r=some (⟨r.Names,r.Err⟩,some 0)):QT (yl g 1) l ((⟨[],0⟩:ak),none)=some (match l with | []=>(⟨[],0⟩,none) | r :: _=>(⟨r.Names,r.Err⟩,some 0)):=by
 cases l with
 | nil=>rfl
 | cons r l =>
  unfold QT yl
  simp only [hg]
  rfl
theorem Uu {p:GPermitPlan} {A:AO} {x:aA}:∀ r ∈ FQ p A x,r.Err≠0:=by
 intro r hr
 unfold FQ at hr
 rcases List.mem_append.1 hr with hr | hr
 ·cases hd:decide (A.now<x.From) with
  | false=>rw [hd] at hr;cases hr
  | true=>rw [hd,lJ,List.mem_singleton] at hr;subst hr;decide
 ·have hr:=(List.mem_filter.1 hr).1
  rcases List.mem_append.1 hr with hr | hr
  ·simp only [List.mem_cons,List.not_mem_nil,or_false] at hr
   rcases hr with rfl | rfl | rfl <;> simp
  ·cases hd:decide (x.Kind=3) with
   | false=>rw [hd] at hr;cases hr
   | true=>rw [hd,lJ,List.mem_singleton] at hr;subst hr;simp
section
variable {N:Nat} {p:GPermitPlan} {A:AO} {g:ah} {st:List (Str×af)} {jA:List (Str×aj)} {pe:List (Str×Str)} (hp:Eh p) (ho:FB p) (hN:1000000≤N) (h:RelA p A g st jA pe) (b:LY A) (hpp:A.pp.Pairwise (fun a b=>a.1<b.1))
include hp hN h
theorem J7 {φ:aA→Option Bool} {so:aA→Bool} (hφ:∀ y ∈ p.ai,φ y=some (so y)):iy N g st jA pe φ=some (mr p A so):=by
 have hm:=hp.m
 unfold iy
 rw [FO (f:=lD N g st jA pe φ) (A:=A) (so:=so) hp hN (fun i hi acc hacc=>?_) (fun acc=>?_)]
 ·rfl
 ·unfold lD
  simp only []
  rw [h.b.plan,bH,dT (by omega),lJ,iW hi,bS,GH hN h.st (FN hi) (by decide),bS,oG (by omega)]
  have hc:([2]:List Int).contains (stA A p.ai[i].Name)=decide (stA A p.ai[i].Name=2):=by rw [Bool.eq_iff_iff];simp
  rw [hc,hφ _ (List.getElem_mem hi)]
  cases decide (stA A p.ai[i].Name=2) <;> rfl
 ·unfold lD
  simp only []
  rw [h.b.plan,bH,dF (by omega),kC]
theorem VB {s:Str}:nY N g st jA pe s=some (Ag p A s):=by
 unfold nY Ag
 rw [J7 hp hN h (so:=fun y=>decide (y.Kind=1)&&decide (y.Space=s)) (fun y _=>by unfold kH;rw [pW,rQ]),bS,gt0]
include b hpp
omit hp hN in
theorem Tj {φ:Str→Option Bool} {so:Str→Bool} (hφ:∀ s,φ s=some (so s)):ku N g st jA pe φ=some (zo A so):=by
 have hlim:lim ≥ 10000000:=by decide
 unfold ku
 refine QU (f:=lK N φ) h.pe hpp b.pl fun acc q _ hacc=>?_
 unfold lK
 rw [hφ,bS]
 cases so q.2 with
 | false=>rfl
 | true=>rw [lJ,lJ,Cc (by simp only [List.length_singleton];omega)];rfl
theorem QW {x:aA}:iH N g st jA pe x=some (zo A fun s=>decide (pK p s x.Space≤1)):=by
 have hlim:lim ≥ 10000000:=by decide
 unfold iH
 refine QU (f:=gQ N g st jA x) (so:=fun s=>decide (pK p s x.Space≤1)) h.pe hpp b.pl fun acc q _ hacc=>?_
 unfold gQ lZ
 rw [h.b.plan,Ig hp hN,bS,bS,yx]
 cases decide (pK p q.2 x.Space≤1) with
 | false=>rfl
 | true=>rw [lJ,lJ,Cc (by simp only [List.length_singleton];omega)];rfl
include ho
theorem Tm {S:Type} {Y:S→bP→Option (S×Bool)} {y0:S} {x:aA} (hx:x ∈ p.ai):jS N Y y0 g st jA pe x=QT Y (FQ p A x) y0:=by
 have hlim:lim ≥ 10000000:=by decide
 unfold jS FQ
 rw [bH,h.b.now,JE hp hN h.st (hp.l _ hx) (fun l hl=>(ho.lk _ hx l hl).1),Ya hp hN h,LZ hp hN h.b b,QW hp hN h b hpp,pW]
 simp only [bS]
 have hl:((bif decide (x.Kind=3) then ((app [(⟨18,Dc A x⟩:bP),(⟨20,mr p A fun y=>oW p y x⟩:bP),(⟨21,BM p A x⟩:bP)] [(⟨17,zo A fun s=>decide (pK p s x.Space≤1)⟩:bP)]).bind fun v6=>some v6) else (some [(⟨18,Dc A x⟩:bP),(⟨20,mr p A fun y=>oW p y x⟩:bP),(⟨21,BM p A x⟩:bP)])):Option (List bP))=some ([(⟨18,Dc A x⟩:bP),(⟨20,mr p A (fun y=>oW p y x)⟩:bP),(⟨21,BM p A x⟩:bP)] ++ (bif decide (x.Kind=3) then [(⟨17,zo A (fun s=>decide (pK p s x.Space≤1))⟩:bP)] else [])):=by
  cases decide (x.Kind=3) with
  | false=>rfl
  | true=>rw [lJ,Cc (by simp only [List.length_cons,List.length_nil];omega)];rfl
 rw [hl]
 simp only [bS]
 have hlen:([(⟨18,Dc A x⟩:bP),(⟨20,mr p A (fun y=>oW p y x)⟩:bP),(⟨21,BM p A x⟩:bP)] ++ (bif decide (x.Kind=3) then [(⟨17,zo A (fun s=>decide (pK p s x.Space≤1))⟩:bP)] else [])).length<1000:=by
  cases decide (x.Kind=3) <;> simp
 simp only [yloop hlen hN]
 cases hd:decide (A.now<x.From) with
 | false=>simp only [kC,bS,Bool.false_and,List.nil_append]
 | true =>
  simp only [lJ,Bool.true_and,List.singleton_append,QT]
  congr 1
  funext v
  cases v.2 <;> rfl
theorem Yc {x:aU} (hh:iU p x.Name=true):mD N g st jA pe x=some (Yb (zH p A x) (qc st x.Name { A.es x.Name with state:=2 }) st):=by
 have hm:=hp.m
 unfold mD zH
 rw [Bf (by omega),bS,rQ,h.st.get _ hh]
 cases kJ x.Person with
 | false=>rfl
 | true =>
  cases decide (x.Person=(A.es x.Name).BD) with
  | true=>rfl
  | false =>
   simp only [Bool.not_true,kC]
   rw [h.b.plan,zq (by omega) hN,bS]
   unfold qj
   rw [bS]
   show ((jS N (yl (iQ N) 1) ((⟨[],0⟩:ak),none) g st jA pe (nR p x.Name)).bind _)=_
   rw [Tm hp ho hN h b hpp (nN hh).1,Ti (g:=iQ N) (fun s r=>rfl),bS]
   have hw:=Uu (p:=p) (A:=A) (x:=nR p x.Name)
   cases hwy:FQ p A (nR p x.Name) with
   | nil =>
    simp only [II]
    unfold dN
    rw [h.st.get _ hh];rfl
   | cons r l =>
    have h0:r.Err≠0:=hw r (by rw [hwy];exact List.mem_cons_self)
    show (bif decide True then some (st,(⟨r.Names,r.Err⟩:ak)) else none)=some (Yb (uq A r.Err r.Names) _ st)
    rw [QV h0];rfl
omit ho in
theorem VD {x:aU} (hh:iU p x.Name=true):lN N g st jA pe x=some (Yb (FK p A x) (qc st x.Name { A.es x.Name with state:=4 }) st):=by
  have hm:=hp.m
  have hs:=hp.s
  obtain ⟨hy,hyn⟩:=nN hh
  have hb:dN N g st jA pe x.Name 4=some (qc st x.Name { A.es x.Name with state:=4 }):=by
    unfold dN;rw [h.st.get _ hh]
  unfold lN FK
  rw [h.b.plan,zq (by omega) hN,bS]
  show ((je N p (nR p x.Name).Space).bind fun v2=>_)=_
  rw [xI (by omega) hN,bS]
  simp only []
  have e1:iy N g st jA pe (fun y0=>jg N y0 (nR p x.Name))=some (mr p A (fun z=>Ik z.Locks (nR p x.Name).Name)):=J7 hp hN h fun y hy=>by
    unfold jg;rw [Ic (Nat.lt_trans (hp.l y hy) (by decide)) hN];rfl
  have e2:iy N g st jA pe (fun y0=>jh N y0 (nR p x.Name))=some (mr p A (fun z=>decide (z.Kind=1)&&decide (z.Space=(nR p x.Name).Space) && !decide (z.Name=(nR p x.Name).Name))):=J7 hp hN h fun y hy=>by
    unfold jh;rw [pW,rQ,QL]
  have e3:ku N g st jA pe (fun y0=>ji N y0 (nR p x.Name))=some (zo A (fun s=>decide (s=(nR p x.Name).Space))):=Tj h b hpp fun s=>by
    unfold ji;rw [rQ]
  have e4:dU N g st jA pe (nR p x.Name).Name [2]=some (decide (stA A (nR p x.Name).Name=2)):=by
    rw [GH hN h.st (by rw [hyn];exact hh) (by decide)]
    congr 1;rw [Bool.eq_iff_iff];simp
  show (((bif aS .eql (nR p x.Name).Kind 5 then ((iy N g st jA pe (fun y0=>jg N y0 (nR p x.Name))).bind fun v3=>bif (aS .gtr (List.length v3:Int) 0) then ((jk N 20 v3).bind fun v4=>some (Sum.inr v4)) else (some (Sum.inl (⟨[],0⟩:ak)))) else ((bif aS .eql (nR p x.Name).Kind 1 then (dU N g st jA pe (nR p x.Name).Name [2]) else some false).bind fun v6=>bif ((aS .eql (nR p x.Name).Kind 1&&v6)&&(yA p (nR p x.Name).Space).dS) then ((iy N g st jA pe (fun y0=>jh N y0 (nR p x.Name))).bind fun v7=>(ku N g st jA pe (fun y0=>ji N y0 (nR p x.Name))).bind fun v8=>bif (aS .eql (List.length v7:Int) 0&&aS .gtr (List.length v8:Int) 0) then ((jk N 21 v8).bind fun v9=>some (Sum.inr v9)) else (some (Sum.inl (⟨[],0⟩:ak)))) else (some (Sum.inl (⟨[],0⟩:ak))))):Option (ak ⊕ ak)).bind fun TI=>Sum.elim (fun l15=>(dN N g st jA pe x.Name 4).bind fun v17=>some (v17,(⟨[],0⟩:ak))) (fun r16=>some (st,r16)) TI)=_
  rw [e1,e2,e3,e4,hb]
  simp only [bS,gt0,ne0]
  simp only [pW]
  unfold jk
  by_cases h5:(nR p x.Name).Kind=5
  · rw [dT h5, dF (show ¬ (nR p x.Name).Kind = 1 by omega)]
    simp only [lJ,Bool.true_and,Bool.false_and,kC]
    cases (mr p A (fun z=>Ik z.Locks (nR p x.Name).Name)).isEmpty <;> rfl
  · rw [dF h5]
    simp only [kC,Bool.false_and]
    cases decide ((nR p x.Name).Kind=1) with
    | false=>rfl
    | true =>
      simp only [lJ,Bool.true_and,bS]
      cases decide (stA A (nR p x.Name).Name=2) with
      | false=>rfl
      | true =>
        cases (yA p (nR p x.Name).Space).dS with
        | false=>rfl
        | true =>
          simp only [Bool.true_and,lJ]
          cases (mr p A (fun z=>decide (z.Kind=1)&&decide (z.Space=(nR p x.Name).Space) && !decide (z.Name=(nR p x.Name).Name))).isEmpty with
          | false=>rfl
          | true=>cases (zo A (fun s=>decide (s=(nR p x.Name).Space))).isEmpty <;> rfl
end
end Go.KB
namespace Go.KB
set_option linter.unusedVariables false
theorem QX {α β:Type} [DecidableEq α] {k:α} {y:β}:∀ {m:List (α×β)},mP m k=false→qc m k y=m ++ [(k,y)]
 | [],_=>rfl
 | q :: r,h=>by
  unfold mP at h
  rw [Bool.or_eq_false_iff] at h
  unfold qc
  rw [h.1,kC,QX h.2];rfl
theorem QY {β : Type} {k : Str} : ∀ {m : List (Str × β)}, mP m k = m.any fun q => decide (q.1 = k)
  | []=>rfl
  | q :: r=>by
    unfold mP
    rw [List.any_cons,QY,show decide (k=q.1)=decide (q.1=k) from decide_eq_decide.2 ⟨Eq.symm,Eq.symm⟩]
theorem Yd {α:Type} {l m:List α} {f:α→Bool} (h:l.Perm m):l.any f=m.any f:=by
 rw [Bool.eq_iff_iff,List.any_eq_true,List.any_eq_true]
 exact ⟨fun ⟨x,a,b⟩=>⟨x,h.mem_iff.1 a,b⟩,fun ⟨x,a,b⟩=>⟨x,h.mem_iff.2 a,b⟩⟩
theorem QZ {n s:Str}:∀ {l:List (Str×Str)},(Jf l n s).Perm ((n,s) :: l)
 | []=>List.Perm.refl _
 | q :: r=>by
  unfold Jf
  cases decide (q.1<n) with
  | false=>exact List.Perm.refl _
  | true=>exact (QZ.cons q).trans (List.Perm.swap _ _ _)
theorem JG {β : Type} {k : Str} : ∀ {m : List (Str × β)}, (m.map fun q => q.1).Nodup → EC m k = m.filter fun q => !decide (q.1 = k)
  | [],_=>rfl
  | q :: r,h=>by
    rw [List.map_cons,List.nodup_cons] at h
    unfold EC
    rw [List.filter_cons]
    by_cases hk:k=q.1
    · rw [dT hk,dT hk.symm,lJ]
      simp only [Bool.not_true,Bool.false_eq_true,if_false]
      refine (List.filter_eq_self.2 fun a ha=>?_).symm
      rw [Bool.not_eq_true',decide_eq_false_iff_not]
      intro he
      exact h.1 (List.mem_map.2 ⟨a,ha,he.trans hk⟩)
    · rw [dF hk,dF (fun e=>hk e.symm),kC,JG h.2];rfl
theorem Ye {l:List (Str×Str)} (h:l.Pairwise (fun a b=>a.1<b.1)):(l.map fun q=>q.1).Nodup:=by
 unfold List.Nodup
 rw [List.pairwise_map]
 exact h.imp fun {a b} hab he=>by
  have hab':a.1<b.1:=hab
  rw [he] at hab'
  exact List.lt_irrefl _ hab'
theorem EZ {N:Nat} {p:GPermitPlan} {s:Str} (hp:Eh p) (hN:1000000≤N):je N p s=some (yA p s,xg p s):=by
 have:=hp.s
 rw [xI (by omega) hN]
 exact congrArg some (Prod.ext rfl Dh)
theorem Pj {N:Nat} {p:GPermitPlan} {s:Str} (hp:Eh p) (hN:1000000≤N):jT N p s=some (nR p s,iU p s):=by
 have:=hp.m
 rw [zq (by omega) hN]
 exact congrArg some (Prod.ext rfl Dh)
structure JP (p:GPermitPlan) (g:ah) (R:AO×List Str×Int) (o:List (Str×af)×List (Str×aj)×List (Str×Str)×ak):Prop where
 rel:RelA p R.1 g o.1 o.2.1 o.2.2.1
 ref:o.2.2.2=⟨R.2.1,R.2.2⟩
theorem RelA.up {p:GPermitPlan} {A:AO} {g:ah} {st:List (Str×af)} {jA:List (Str×aj)} {pe:List (Str×Str)} (h:RelA p A g st jA pe) {n:Str} (hn:iU p n=true) (e:af):RelA p (NS A n e) g (qc st n e) jA pe :=
 ⟨⟨h.b.plan,h.b.now,h.b.LW,h.b.LX⟩,h.st.set hn e,h.pe,h.done⟩
section
variable {N:Nat} {p:GPermitPlan} {A:AO} {g:ah} {st:List (Str×af)} {jA:List (Str×aj)} {pe:List (Str×Str)} (hp:Eh p) (ho:FB p) (hN:1000000≤N) (h:RelA p A g st jA pe) (b:LY A) (hpp:A.pp.Pairwise (fun a b=>a.1<b.1))
theorem wQ (h:RelA p A g st jA pe) {e:Int} {l:List Str}:JP p g (uq A e l) (st,jA,pe,⟨l,e⟩):=⟨h,rfl⟩
include hN h
theorem Q5 {x:aU} (hh:iU p x.Name=true):∃ o,((nJ N g st jA pe x).bind fun y=>some (y.1,jA,pe,y.2))=some o∧JP p g (Df A x) o:=by
 unfold nJ Df
 rw [Bf (by omega),bS,h.st.get _ hh]
 cases kJ x.Person with
 | false=>exact ⟨_,rfl,wQ h⟩
 | true=>exact ⟨_,rfl,h.up hh _,rfl⟩
theorem Tn {x:aU} (hh:iU p x.Name=true):∃ o,((nX N g st jA pe x).bind fun y=>some (y.1,jA,pe,y.2))=some o∧JP p g (J5 A x) o:=by
 unfold nX J5
 rw [Bf (by omega),bS,h.st.get _ hh,yx,rY]
 cases kJ x.Person with
 | false=>exact ⟨_,rfl,wQ h⟩
 | true =>
  cases (decide (x.To≤(A.es x.Name).yB)||decide (1000000<x.To)) with
  | true=>exact ⟨_,rfl,wQ h⟩
  | false=>exact ⟨_,rfl,h.up hh _,rfl⟩
omit hN in
theorem Mc {x:aU} {k:Int} (hh:iU p x.Name=true):∃ o,(((dN N g st jA pe x.Name k).bind fun v1=>some (v1,(⟨[],0⟩:ak))).bind fun y=>some (y.1,jA,pe,y.2))=some o∧JP p g (Bd (Ii A x.Name k)) o:=by
 unfold dN
 rw [h.st.get _ hh]
 exact ⟨_,rfl,h.up hh _,rfl⟩
include hp b hpp ho
theorem NW {x:aU} (hh:iU p x.Name=true):∃ o,((mD N g st jA pe x).bind fun y=>some (y.1,jA,pe,y.2))=some o∧JP p g (zH p A x) o:=by
 rw [Yc hp ho hN h b hpp hh]
 refine ⟨_,rfl,?_,rfl⟩
 simp only []
 unfold zH
 cases kJ x.Person with
 | false=>exact h
 | true =>
  cases decide (x.Person=(A.es x.Name).BD) with
  | true=>exact h
  | false =>
   simp only [Bool.not_true,kC]
   have hw:=Uu (p:=p) (A:=A) (x:=nR p x.Name)
   cases hwy:FQ p A (nR p x.Name) with
   | nil=>exact h.up hh _
   | cons r l =>
    have h0:r.Err≠0:=hw r (by rw [hwy];exact List.mem_cons_self)
    show RelA p A g (Yb (uq A r.Err r.Names) _ st).1 jA pe
    rw [QV h0];exact h
omit ho in
theorem Tq {x:aU} (hh:iU p x.Name=true):∃ o,((lN N g st jA pe x).bind fun y=>some (y.1,jA,pe,y.2))=some o∧JP p g (FK p A x) o:=by
 rw [VD hp hN h b hpp hh]
 refine ⟨_,rfl,?_,rfl⟩
 simp only []
 unfold FK
 simp only []
 cases (decide ((nR p x.Name).Kind=5) && !(mr p A (fun z=>Ik z.Locks (nR p x.Name).Name)).isEmpty) with
 | true=>exact h
 | false =>
  rw [kC]
  cases (decide ((nR p x.Name).Kind=1)&&decide (stA A (nR p x.Name).Name=2)&&(yA p (nR p x.Name).Space).dS&&(mr p A (fun z=>decide (z.Kind=1)&&decide (z.Space=(nR p x.Name).Space) && !decide (z.Name=(nR p x.Name).Name))).isEmpty && !(zo A (fun s=>decide (s=(nR p x.Name).Space))).isEmpty) with
  | true=>exact h
  | false=>exact h.up hh _
omit ho hpp b
theorem Zf {x:aU}:∃ o,((qm N g st jA pe x).bind fun y=>some (st,y.1,pe,y.2))=some o∧JP p g (Vr p A x) o:=by
 have hs:=hp.s
 unfold qm Vr
 rw [h.b.plan,EZ hp hN,bS]
 simp only [bH,rY]
 cases xg p x.Space with
 | false=>exact ⟨_,rfl,wQ h⟩
 | true =>
  simp only [Bool.not_true,kC]
  cases (decide (x.vN<0)||decide (1000<x.vN)||decide (x.Pq<0)||decide (1000<x.Pq)) with
  | true=>exact ⟨_,rfl,wQ h⟩
  | false =>
   refine ⟨_,rfl,⟨⟨h.b.plan,h.b.now,fun s=>?_,fun s t e=>?_⟩,h.st,h.pe,h.done⟩,rfl⟩
   ·simp only [kC,Bd]
    rw [FM,h.b.LW]
    cases decide (s=x.Space) <;> rfl
   ·simp only [kC,Bd] at e ⊢
    rw [Di]
    by_cases he:s=x.Space
    ·rw [dT he] at e;cases e;rw [if_pos he,h.b.now]
    ·rw [dF he] at e;rw [if_neg he];exact h.b.LX s t e
theorem Yf {s:Str}:jv N g st jA pe (yA p s)=some (mr p A (fun y=>decide (y.Kind=3)&&decide (pK p y.Space (yA p s).Name≤1))):=by
 have hm:=hp.m
 unfold jv
 rw [FO (f:=gW N g st jA pe (yA p s)) (A:=A) (so:=fun y=>decide (y.Kind=3)&&decide (pK p y.Space (yA p s).Name≤1)) hp hN (fun i hi acc hacc=>?_) (fun acc=>?_)]
 ·rfl
 ·unfold gW
  simp only []
  rw [h.b.plan,bH,dT (by omega),lJ,iW hi,bS,GH hN h.st (FN hi) (by decide),bS,oG (by omega)]
  have hc:([2]:List Int).contains (stA A p.ai[i].Name)=decide (stA A p.ai[i].Name=2):=by rw [Bool.eq_iff_iff];simp
  have hq:nK N g st jA pe p.ai[i] (yA p s)=some (decide (p.ai[i].Kind=3)&&decide (pK p p.ai[i].Space (yA p s).Name≤1)):=by
   unfold nK
   rw [h.b.plan,Ig hp hN,pW]
   cases decide (p.ai[i].Kind=3) with
   | false=>rfl
   | true=>simp only [lJ,bS,Bool.true_and,yx]
  rw [hc,hq]
  cases decide (stA A p.ai[i].Name=2) <;> rfl
 ·unfold gW
  simp only []
  rw [h.b.plan,bH,dF (by omega),kC]
theorem Yg {x:aU}:jr N g st jA pe x=some (mr p A (fun y=>!decide (y.Kind=5)&&decide (pK p y.Space x.Space≤1))):=by
 have hm:=hp.m
 unfold jr
 rw [FO (f:=gV N g st jA pe x) (A:=A) (so:=fun y=>!decide (y.Kind=5)&&decide (pK p y.Space x.Space≤1)) hp hN (fun i hi acc hacc=>?_) (fun acc=>?_)]
 ·rfl
 ·unfold gV
  simp only []
  rw [h.b.plan,bH,dT (by omega),lJ,iW hi,bS,GH hN h.st (FN hi) (by decide),bS,oG (by omega)]
  have hc:([2]:List Int).contains (stA A p.ai[i].Name)=decide (stA A p.ai[i].Name=2):=by rw [Bool.eq_iff_iff];simp
  have hq:nH N g st jA pe p.ai[i] x=some (!decide (p.ai[i].Kind=5)&&decide (pK p p.ai[i].Space x.Space≤1)):=by
   unfold nH
   rw [h.b.plan,Ig hp hN,oz]
   cases (!decide (p.ai[i].Kind=5)) with
   | false=>rfl
   | true=>simp only [lJ,bS,Bool.true_and,yx]
  rw [hc,hq]
  cases decide (stA A p.ai[i].Name=2) <;> rfl
 ·unfold gV
  simp only []
  rw [h.b.plan,bH,dF (by omega),kC]
omit hp hN in
theorem Jj {n:Str}:mP pe n=D6 A n:=by
 rw [QY,Yd h.pe];rfl
theorem VE {x:aU}:∃ o,((oH N g st jA pe x).bind fun y=>some (st,jA,y.1,y.2))=some o∧JP p g (O5 p A x) o:=by
 have hs:=hp.s
 unfold oH O5
 rw [Bf (by omega),bS,h.b.plan]
 cases kJ x.Person with
 | false=>exact ⟨_,rfl,wQ h⟩
 | true =>
  simp only [Bool.not_true,kC]
  rw [EZ hp hN,bS]
  simp only []
  cases hh:xg p x.Space with
  | false=>exact ⟨_,rfl,wQ h⟩
  | true =>
   have hnm:=(QM hh).2
   simp only [Bool.not_true,kC]
   rw [VB hp hN h,Yf hp hN h,Jj h,hnm]
   cases hi:D6 A x.Person with
   | true=>exact ⟨_,rfl,wQ h⟩
   | false =>
    simp only [kC]
    have hx:((bif (yA p x.Space).dS then (some (Ag p A x.Space)) else some false).bind fun v6=>(some (((yA p x.Space).dS&&(!v6))):Option Bool))=some ((yA p x.Space).dS && !Ag p A x.Space):=by
     cases (yA p x.Space).dS <;> rfl
    have hx2:∀ (F:Bool→Option (List (Str×Str)×ak)),((bif (yA p x.Space).dS then (some (Ag p A x.Space)) else some false).bind fun v6=>F ((yA p x.Space).dS&&(!v6)))=F ((yA p x.Space).dS && !Ag p A x.Space):=by
     intro F;cases (yA p x.Space).dS <;> rfl
    rw [hx2 (fun c=>bif c then _ else _)]
    cases ((yA p x.Space).dS && !Ag p A x.Space) with
    | true=>exact ⟨_,rfl,wQ h⟩
    | false =>
     simp only [kC,bS,gt0]
     cases (!(mr p A (fun y=>decide (y.Kind=3)&&decide (pK p y.Space x.Space≤1))).isEmpty) with
     | true=>exact ⟨_,rfl,wQ h⟩
     | false =>
      refine ⟨_,rfl,⟨⟨h.b.plan,h.b.now,h.b.LW,h.b.LX⟩,h.st,?_,h.done⟩,rfl⟩
      show (qc pe x.Person x.Space).Perm (Jf A.pp x.Person x.Space)
      rw [QX (by rw [Jj h];exact hi)]
      exact (List.perm_append_singleton _ _).trans ((h.pe.cons _).trans QZ.symm)
include hpp
omit hp in
theorem VF {x:aU}:∃ o,((oI N g st jA pe x).bind fun y=>some (st,jA,y.1,y.2))=some o∧JP p g (O6 A x) o:=by
 unfold oI O6
 rw [Bf (by omega),bS,Jj h]
 cases kJ x.Person with
 | false=>exact ⟨_,rfl,wQ h⟩
 | true =>
  cases D6 A x.Person with
  | false=>exact ⟨_,rfl,wQ h⟩
  | true =>
   refine ⟨_,rfl,⟨⟨h.b.plan,h.b.now,h.b.LW,h.b.LX⟩,h.st,?_,h.done⟩,rfl⟩
   show (EC pe x.Person).Perm (A.pp.filter fun q=>!decide (q.1=x.Person))
   rw [JG]
   ·exact h.pe.filter _
   ·exact ((h.pe.map _).nodup_iff).2 (Ye hpp)
omit hpp
include ho
theorem VG {x:aU}:∃ o,((oJ N g st jA pe x).bind fun y=>some (y.1,jA,pe,y.2))=some o∧JP p g (O7 p A x) o:=by
 have hs:=hp.s
 have hm:=hp.m
 unfold oJ O7
 rw [h.b.plan,EZ hp hN,bS]
 simp only []
 cases xg p x.Space with
 | false=>exact ⟨_,rfl,wQ h⟩
 | true =>
  simp only [Bool.not_true,kC]
  rw [Yg hp hN h,bS]
  have hmem:∀ s ∈ mr p A (fun y=>!decide (y.Kind=5)&&decide (pK p y.Space x.Space≤1)),iU p s=true:=by
   intro s hs
   unfold mr at hs
   obtain ⟨y,hy,rfl⟩:=List.mem_map.1 hs
   exact uN.2 ⟨y,(List.mem_filter.1 hy).1,rfl⟩
  have hlen:(mr p A (fun y=>!decide (y.Kind=5)&&decide (pK p y.Space x.Space≤1))).length≤p.ai.length:=by
   unfold mr;rw [List.length_map];exact List.length_filter_le _ _
  have hin:∀ s,iU p s=true→Ik (mr p A (fun y=>!decide (y.Kind=5)&&decide (pK p y.Space x.Space≤1))) s=(iU p s&&decide (stA A s=2)&&(!decide ((nR p s).Kind=5)&&decide (pK p (nR p s).Space x.Space≤1))):=by
   intro s hs
   rw [hs,Bool.true_and,Bool.eq_iff_iff,Uk]
   unfold mr
   rw [List.mem_map]
   constructor
   ·rintro ⟨y,hy,rfl⟩
    obtain ⟨hy1,hy2⟩:=List.mem_filter.1 hy
    rw [ho.xH hy1];exact hy2
   ·intro hb
    obtain ⟨h1,h2⟩:=nN hs
    refine ⟨nR p s,List.mem_filter.2 ⟨h1,?_⟩,h2⟩
    rw [h2];exact hb
  generalize mr p A (fun y=>!decide (y.Kind=5)&&decide (pK p y.Space x.Space≤1))=L at hmem hlen hin
  have key:∃ st',bW (jV N g jA pe L) N (0,st)=some st'∧LV p (fun n=>bif Ik L n then ({ A.es n with state:=3 }:af) else A.es n) st':=by
   refine zn (N:=N) (n:=L.length) (f:=jV N g jA pe L) (s0:=(0,st)) (fun i s=>s.1=(i:Int)∧LV p (fun n=>bif Ik (L.take i) n then ({ A.es n with state:=3 }:af) else A.es n) s.2) (fun st'=>LV p (fun n=>bif Ik L n then ({ A.es n with state:=3 }:af) else A.es n) st') ⟨rfl,h.st.congr fun s _=>by unfold Ik;simp⟩ (fun i s hi hs=>?_) (fun s hs=>?_) (by omega)
   ·obtain ⟨s1,st'⟩:=s
    obtain ⟨rfl,hr⟩:=hs
    simp only [] at hr
    have hn:=hmem _ (List.getElem_mem hi)
    refine ⟨_,by unfold jV dN;simp only [];rw [bH,dT (by omega),lJ,iW hi,bS,bS,oG (by omega)],rfl,?_⟩
    refine (hr.set hn _).congr fun s hs=>?_
    simp only []
    rw [hr.get _ hn]
    have htk:Ik (L.take (i+1)) s=(Ik (L.take i) s||decide (s=L[i])):=by
     unfold Ik;rw [List.take_succ_eq_append_getElem hi,List.any_append];simp
    rw [htk]
    by_cases he:s=L[i]
    ·subst he
     rw [dT rfl,Bool.or_true,lJ,lJ]
     cases Ik (L.take i) L[i] <;> rfl
    ·rw [dF he,Bool.or_false];rfl
   ·obtain ⟨s1,st'⟩:=s
    obtain ⟨rfl,hr⟩:=hs
    refine ⟨st',?_,?_⟩
    ·unfold jV
     simp only []
     rw [bH,dF (by omega),kC]
    ·rw [List.take_length] at hr;exact hr
  obtain ⟨st',h1,h2⟩:=key
  rw [h1]
  refine ⟨_,rfl,⟨⟨h.b.plan,h.b.now,h.b.LW,h.b.LX⟩,h2.congr fun s hs=>?_,h.pe,h.done⟩,rfl⟩
  show _=(bif iU p s&&decide (stA A s=2)&&(!decide ((nR p s).Kind=5)&&decide (pK p (nR p s).Space x.Space≤1)) then ({ A.es s with state:=3 }:af) else A.es s)
  rw [hin s hs]
end
end Go.KB
namespace Go.KB
set_option linter.unusedVariables false
instance:Inhabited bf:=⟨⟨[],[],[],none⟩⟩
def Pm:List bf:=(vU 0).getD []
theorem Yh {N:Nat}:vU N=some Pm:=rfl
def wG (op:Int):bf:=Pm[op.toNat]!
theorem Md {op:Int} (h0:0≤op) (h12:op<12):op=0∨op=1∨op=2∨op=3∨op=4∨op=5∨op=6∨op=7∨op=8∨op=9∨op=10∨op=11:=by omega
theorem Yi {op:Int} (h0:0≤op) (h12:op<12):idx Pm op=some (wG op):=by
 rcases Md h0 h12 with h | h | h | h | h | h | h | h | h | h | h | h <;> subst h <;> rfl
theorem Q7 {op:Int} (h0:0≤op) (h12:op<12):(wG op).states=(BN op).getD []:=by
 rcases Md h0 h12 with h | h | h | h | h | h | h | h | h | h | h | h <;> subst h <;> rfl
theorem VH {op:Int} {l:List Int} (h:BN op=some l):l.isEmpty=false∧l.length<100:=by
 unfold BN at h
 repeat' split at h
 all_goals first | (cases h;exact ⟨rfl,by decide⟩) | cases h
section
variable {N:Nat} {p:GPermitPlan} {A:AO} {g:ah} {st:List (Str×af)} {jA:List (Str×aj)} {pe:List (Str×Str)} (hp:Eh p) (ho:FB p) (hN:1000000≤N) (h:RelA p A g st jA pe) (b:LY A) (hpp:A.pp.Pairwise (fun a b=>a.1<b.1))
include hp hN h b hpp ho
theorem Yj {x:aU} (h0:0≤x.Op) (h12:x.Op<12) (hh:BN x.Op≠none→iU p x.Name=true):∃ o,Dl N g st jA pe (wG x.Op).Nh x=some o∧JP p g (yH p A x) o:=by
  unfold Dl yH
  rcases Md h0 h12 with e | e | e | e | e | e | e | e | e | e | e | e
  · have hd : (wG x.Op).Nh = some 95 := by rw [e]; rfl
    rw [hd];simp only [e,Option.some.injEq,Nat.reduceEqDiff,decide_false,decide_true,kC,lJ,if_false,Int.reduceEq]
    exact ⟨_,rfl,h,rfl⟩
  · have hd : (wG x.Op).Nh = some 96 := by rw [e]; rfl
    have hx:=hh (by rw [e];decide)
    rw [hd];simp only [e,Option.some.injEq,Nat.reduceEqDiff,decide_false,decide_true,kC,lJ,if_false,Int.reduceEq]
    exact Q5 hN h hx
  · have hd : (wG x.Op).Nh = some 97 := by rw [e]; rfl
    have hx:=hh (by rw [e];decide)
    rw [hd];simp only [e,Option.some.injEq,Nat.reduceEqDiff,decide_false,decide_true,kC,lJ,if_false,Int.reduceEq]
    exact NW hp ho hN h b hpp hx
  · have hd : (wG x.Op).Nh = some 98 := by rw [e]; rfl
    have hx:=hh (by rw [e];decide)
    rw [hd];simp only [e,Option.some.injEq,Nat.reduceEqDiff,decide_false,decide_true,kC,lJ,if_false,Int.reduceEq]
    exact Mc h hx
  · have hd : (wG x.Op).Nh = some 97 := by rw [e]; rfl
    have hx:=hh (by rw [e];decide)
    rw [hd];simp only [e,Option.some.injEq,Nat.reduceEqDiff,decide_false,decide_true,kC,lJ,if_false,Int.reduceEq]
    exact NW hp ho hN h b hpp hx
  · have hd : (wG x.Op).Nh = some 99 := by rw [e]; rfl
    have hx:=hh (by rw [e];decide)
    rw [hd];simp only [e,Option.some.injEq,Nat.reduceEqDiff,decide_false,decide_true,kC,lJ,if_false,Int.reduceEq]
    exact Tq hp hN h b hpp hx
  · have hd : (wG x.Op).Nh = some 100 := by rw [e]; rfl
    have hx:=hh (by rw [e];decide)
    rw [hd];simp only [e,Option.some.injEq,Nat.reduceEqDiff,decide_false,decide_true,kC,lJ,if_false,Int.reduceEq]
    exact Mc h hx
  · have hd : (wG x.Op).Nh = some 101 := by rw [e]; rfl
    rw [hd];simp only [e,Option.some.injEq,Nat.reduceEqDiff,decide_false,decide_true,kC,lJ,if_false,Int.reduceEq]
    exact Zf hp hN h
  · have hd : (wG x.Op).Nh = some 102 := by rw [e]; rfl
    rw [hd];simp only [e,Option.some.injEq,Nat.reduceEqDiff,decide_false,decide_true,kC,lJ,if_false,Int.reduceEq]
    exact VE hp hN h
  · have hd : (wG x.Op).Nh = some 103 := by rw [e]; rfl
    rw [hd];simp only [e,Option.some.injEq,Nat.reduceEqDiff,decide_false,decide_true,kC,lJ,if_false,Int.reduceEq]
    exact VF hN h hpp
  · have hd : (wG x.Op).Nh = some 104 := by rw [e]; rfl
    rw [hd];simp only [e,Option.some.injEq,Nat.reduceEqDiff,decide_false,decide_true,kC,lJ,if_false,Int.reduceEq]
    exact VG hp ho hN h
  · have hd : (wG x.Op).Nh = some 105 := by rw [e]; rfl
    have hx:=hh (by rw [e];decide)
    rw [hd];simp only [e,Option.some.injEq,Nat.reduceEqDiff,decide_false,decide_true,kC,lJ,if_false,Int.reduceEq]
    exact Tn hN h hx
end
theorem RelA.setNow {p:GPermitPlan} {A:AO} {g:ah} {st:List (Str×af)} {jA:List (Str×aj)} {pe:List (Str×Str)} (h:RelA p A g st jA pe) (t:Int):RelB p { A with now:=t } ({ g with now:=t }:ah) jA:=⟨h.b.plan,rfl,h.b.LW,h.b.LX⟩
def Jk (p:GPermitPlan) (A:AO) (x:aU) (G:AO×List Str×Int):AO×List Str×Int:=bif decide (G.2.2=0) then (({ dP p G.1 with done:=A.done ++ [x] }:AO),[],0) else G
theorem Q8 {p:GPermitPlan} {A S:AO} {x:aU} {e:Int} {l:List Str} (he:e≠0):Jk p A x (uq S e l)=uq S e l:=by
 unfold Jk uq
 simp only []
 rw [dF he];rfl
theorem Q9 {p:GPermitPlan} {A:AO} {x:aU} {G:AO×List Str×Int} (he:G.2.2≠0):Jk p A x G=G:=by
 unfold Jk;rw [dF he];rfl
theorem Uw {p:GPermitPlan} {A:AO} {x:aU} {G:AO×List Str×Int} (he:G.2.2=0):Jk p A x G=(({ dP p G.1 with done:=A.done ++ [x] }:AO),[],0):=by
 unfold Jk;rw [dT he];rfl
theorem Do_eq {N:Nat} {p:GPermitPlan} {A:AO} {g:ah} {st:List (Str×af)} {jA:List (Str×aj)} {pe:List (Str×Str)} (hp:Eh p) (ho:FB p) (hN:1000000≤N) (h:RelA p A g st jA pe) (hi:I8 p A) (hd:A.done.length<999999) (x:aU) :
    ∃ g' st' xG Gu,jO N g st jA pe x=some (g',st',xG,Gu,(xA p A x).2.1,(xA p A x).2.2)∧RelA p (xA p A x).1 g' st' xG Gu:=by
  have hlim:lim ≥ 10000000:=by decide
  have hm:=hp.m
  obtain ⟨gp,gn,gd⟩:=g
  have hg:p=gp:=h.b.plan.symm
  have hgn:gn=A.now:=h.b.now
  have hgd:gd=A.done:=h.done
  subst hg hgn hgd
  unfold jO xA
  rw [Yh,bS]
  have hlen:(Pm.length:Int)=12:=rfl
  rw [hlen,bH,xB]
  by_cases hr:x.Op<0∨12≤x.Op∨x.At<0∨1000000<x.At
  · have hr' : (decide (x.Op < 0) || decide (12 ≤ x.Op) || decide (x.At < 0) || decide (1000000 < x.At)) = true := by simpa [or_assoc] using hr
    rw [hr',lJ]
    refine ⟨⟨p,A.now,A.done⟩,st,jA,pe,?_,h⟩
    unfold vG
    rw [xB,yx]
    cases hc:(decide (x.Op<0)||decide (12≤x.Op)) with
    | true=>rfl
    | false =>
      simp only [Bool.not_false,lJ,bS,Bool.false_or]
      have:(decide (0≤x.At)&&decide (x.At≤1000000))=false:=by
        rw [Bool.or_eq_false_iff,decide_eq_false_iff_not,decide_eq_false_iff_not] at hc
        rw [Bool.and_eq_false_iff,decide_eq_false_iff_not,decide_eq_false_iff_not];omega
      rw [this];rfl
  · have hr' : (decide (x.Op < 0) || decide (12 ≤ x.Op) || decide (x.At < 0) || decide (1000000 < x.At)) = false := by simp; omega
    rw [hr',kC]
    have hop:(decide (x.Op<0)||decide (12≤x.Op))=false:=by simp;omega
    have htm:vG N x.At=some true:=by
      unfold vG;rw [xB,yx,dT (by omega),dT (by omega)];rfl
    rw [hop,htm]
    simp only [Bool.not_false,lJ,bS,Bool.not_true,Bool.or_self,kC,bH]
    by_cases hlt:x.At<A.now
    · rw [dT hlt];exact ⟨⟨p,A.now,A.done⟩,st,jA,pe,rfl,h⟩
    rw [dF hlt,kC,kC]
    have hw0:=hi.w
    have hw:WA p A.done { A with now:=x.At }:=hw0.le (fun s=>.inl rfl) (fun _=>rfl) ⟨by show A.now≤x.At;omega,by show x.At≤1000000;omega⟩ hw0.pp (fun s t e=>.inl e) hw0.pl
    have hb0:LY { A with now:=x.At }:=hw.bd (by omega)
    obtain ⟨st1,e1,r1⟩:=Jg (pe:=pe) hp ho hN (h.setNow x.At) h.st hb0
    rw [e1,bS,Yi (by omega) (by omega),bS,Q7 (by omega) (by omega)]
    have hS:RelA p (dP p { A with now:=x.At }) (⟨p,x.At,A.done⟩:ah) st1 jA pe:=⟨⟨rfl,rfl,h.b.LW,h.b.LX⟩,r1,h.pe,h.done⟩
    have hbS:LY (dP p { A with now:=x.At }):=hb0.settle
    have hiS:I8 p (dP p { A with now:=x.At }):=D5 ho hw
    have hact:∀ (G:AO×List Str×Int),(∃ o,Dl N (⟨p,x.At,A.done⟩:ah) st1 jA pe (wG x.Op).Nh x=some o∧JP p (⟨p,x.At,A.done⟩:ah) G o)→StepA p (dP p { A with now:=x.At }) x G→∃ g' st' xG Gu,((Dl N (⟨p,x.At,A.done⟩:ah) st1 jA pe (wG x.Op).Nh x).bind fun v14=>bif (aS .neq v14.2.2.2.e 0) then (some ((⟨p,x.At,A.done⟩:ah),v14.1,v14.2.1,v14.2.2.1,v14.2.2.2.names,v14.2.2.2.e)) else ((jP N (⟨p,x.At,A.done⟩:ah) v14.1 v14.2.1 v14.2.2.1).bind fun v15=>(app A.done [x]).bind fun v16=>some ((⟨p,x.At,v16⟩:ah),v15,v14.2.1,v14.2.2.1,([]:List Str),(0:Int))))=some (g',st',xG,Gu,(Jk p A x G).2.1,(Jk p A x G).2.2)∧RelA p (Jk p A x G).1 g' st' xG Gu:=by
      rintro G ⟨⟨a1,a2,a3,a4⟩,ho1,ho2⟩ hstep
      rw [ho1,bS]
      have hrel:=ho2.rel
      have href:a4=⟨G.2.1,G.2.2⟩:=ho2.ref
      simp only [] at hrel
      subst href
      simp only [oz]
      by_cases h0:G.2.2=0
      · rw [dT h0,Uw h0]
        simp only [Bool.not_true,kC]
        have hw2:=hstep.2.1 _ hiS.w
        have hdn:(dP p { A with now:=x.At }).done=A.done:=rfl
        have hb2:LY G.1:=hw2.bd (by rw [List.length_append,hdn];simp only [List.length_singleton];omega)
        obtain ⟨st2,e2,r2⟩:=Jg (pe:=a3) hp ho hN hrel.b hrel.st hb2
        rw [e2,bS,Cc (by simp only [List.length_singleton];omega),bS]
        exact ⟨_,_,_,_,rfl,⟨hrel.b.plan,hrel.b.now,hrel.b.LW,hrel.b.LX⟩,r2,hrel.pe,rfl⟩
      · rw [dF h0,Q9 h0]
        exact ⟨_,_,_,_,rfl,hrel⟩
    have Zy:=fun hh=>Yj hp ho hN hS hbS hiS.w.pp (x:=x) (by omega) (by omega) hh
    have hstep:=LU ho (A:=dP p { A with now:=x.At }) (x:=x) (by omega) (by omega)
    show ∃ g' st' xG Gu,_=some (g',st',xG,Gu,(Jk p A x (Bc p (dP p { A with now:=x.At }) x)).2.1,(Jk p A x (Bc p (dP p { A with now:=x.At }) x)).2.2)∧RelA p (Jk p A x (Bc p (dP p { A with now:=x.At }) x)).1 g' st' xG Gu
    unfold Bc at hstep ⊢
    cases hs:BN x.Op with
    | none =>
      rw [hs] at hstep
      simp only [Option.getD_none,List.isEmpty_nil,Bool.not_true,kC,bS,Sum.elim_inl]
      exact hact _ (Zy fun hn=>absurd hs hn) hstep
    | some l =>
      rw [hs] at hstep
      obtain ⟨hl1,hl2⟩:=VH hs
      simp only [Option.getD_some,hl1,Bool.not_false,lJ] at hstep ⊢
      rw [Pj hp hN,bS]
      simp only []
      cases hh:iU p x.Name with
      | false=>simp only [Bool.not_false,lJ];rw [Q8 (by decide)];exact ⟨_,_,_,_,rfl,hS⟩
      | true =>
        rw [hh] at hstep
        simp only [Bool.not_true,kC] at hstep ⊢
        rw [GH hN r1 hh hl2,bS]
        cases hc:l.contains (stA (dP p { A with now:=x.At }) x.Name) with
        | false=>simp only [Bool.not_false,lJ];rw [Q8 (by decide)];exact ⟨_,_,_,_,rfl,hS⟩
        | true =>
          rw [hc] at hstep
          simp only [Bool.not_true,kC,bS,Sum.elim_inl] at hstep ⊢
          exact hact _ (Zy fun _=>hh) hstep
end Go.KB
namespace Go.KB
set_option maxRecDepth 100000
end Go.KB
namespace Go.KB
set_option linter.unusedVariables false
theorem fit_eq {N:Nat} (p:GPermitPlan) (hN:1000000≤N):xK N p=some false∨(xK N p=some true∧Eh p∧lV p=0∧p.bF.length≤8∧p.ai.length≤8∧p.cZ.length≤12):=by
 unfold xK
 rcases X7 p hN with hg | ⟨hg,hp,_⟩
 ·rw [hg];exact .inl rfl
 ·rw [hg,bS,Bool.not_false,lJ,Nb hp hN,bS,Bool.true_and]
  simp only [pW,yx]
  by_cases h:lV p=0∧p.bF.length≤8∧p.ai.length≤8∧p.cZ.length≤12
  ·refine .inr ⟨?_,hp,h⟩
   rw [dT h.1,dT (by omega),dT (by omega),dT (by omega)];rfl
  ·refine .inl ?_
   congr 1
   rw [Bool.eq_false_iff]
   intro hx
   simp only [Bool.and_eq_true,decide_eq_true_eq] at hx
   exact h (by omega)
section
variable {N:Nat} {p:GPermitPlan} {A:AO} {g:ah} {st:List (Str×af)} {jA:List (Str×aj)} {pe:List (Str×Str)}
theorem Xw (h:RelA p A g st jA pe) {n:Str}:oK N g st jA pe n=some (bif iU p n then (stA A n,0) else (0,6)):=by
 unfold oK
 rw [h.st.has]
 cases hh:iU p n with
 | false=>rfl
 | true=>rw [h.st.get _ hh];rfl
theorem Ui (hp:Eh p) (hN:1000000≤N) (h:RelA p A g st jA pe):mY N g st jA pe=some (mr p A fun _=>true):=by
 unfold mY
 rw [J7 hp hN h (φ:=fun y0=>lH N y0) (so:=fun _=>true) (fun _ _=>rfl)];rfl
end
theorem do_done {p:GPermitPlan} (ho:FB p) {A:AO} {x:aU}:(xA p A x).1.done.length≤A.done.length+1:=by
  unfold xA
  by_cases hr:x.Op<0∨12≤x.Op∨x.At<0∨1000000<x.At
  · have hr' : (decide (x.Op < 0) || decide (12 ≤ x.Op) || decide (x.At < 0) || decide (1000000 < x.At)) = true := by simpa [or_assoc] using hr
    rw [hr'];exact Nat.le_succ _
  · have hr' : (decide (x.Op < 0) || decide (12 ≤ x.Op) || decide (x.At < 0) || decide (1000000 < x.At)) = false := by simp; omega
    rw [hr',kC]
    cases decide (x.At<A.now) with
    | true=>exact Nat.le_succ _
    | false =>
      obtain ⟨_,_,_,s4,_⟩:=LU ho (A:=dP p { A with now:=x.At }) (x:=x) (by omega) (by omega)
      show (Jk p A x (Bc p (dP p { A with now:=x.At }) x)).1.done.length≤_
      by_cases h0:(Bc p (dP p { A with now:=x.At }) x).2.2=0
      · rw [Uw h0];show (A.done ++ [x]).length≤_;simp
      · rw [Q9 h0,s4];exact Nat.le_succ _
structure yV (p:GPermitPlan) (i:Nat) (A:AO) (g:ah) (st:List (Str×af)) (jA:List (Str×aj)) (pe:List (Str×Str)):Prop where
 rel:RelA p A g st jA pe
 inv:I8 p A
 len:A.done.length≤i
theorem yV.bd {p:GPermitPlan} {i:Nat} {A:AO} {g:ah} {st:List (Str×af)} {jA:List (Str×aj)} {pe:List (Str×Str)} (h:yV p i A g st jA pe) (hi:i<1000000):LY A:=h.inv.w.bd (Nat.lt_of_le_of_lt h.len hi)
theorem Y2 {N:Nat} {p:GPermitPlan} (hp:Eh p) (ho:lV p=0) (hN:1000000≤N):∃ st,uH N p=some (some ((⟨p,0,[]⟩:ah),st,[],[]),0)∧yV p 0 (Lr p) (⟨p,0,[]⟩:ah) st [] []:=by
 obtain ⟨st,h1,h2⟩:=New_eq hp ho hN
 exact ⟨st,h1,h2,Y9 (okP ho),Nat.le_refl _⟩
theorem Ls {N:Nat} {p:GPermitPlan} {i:Nat} {A:AO} {g:ah} {st:List (Str×af)} {jA:List (Str×aj)} {pe:List (Str×Str)} (hp:Eh p) (ho:FB p) (hN:1000000≤N) (h:yV p i A g st jA pe) (hi:i<1000) (x:aU) :
  ∃ g' st' xG Gu,jO N g st jA pe x=some (g',st',xG,Gu,(xA p A x).2.1,(xA p A x).2.2)∧yV p (i+1) (xA p A x).1 g' st' xG Gu:=by
 have hl:=h.len
 obtain ⟨g',st',xG,Gu,h1,h2⟩:=Do_eq hp ho hN h.rel h.inv (by omega) x
 exact ⟨g',st',xG,Gu,h1,h2,(inv_do ho h.inv).1,Nat.le_trans (do_done ho) (by omega)⟩
end Go.KB
