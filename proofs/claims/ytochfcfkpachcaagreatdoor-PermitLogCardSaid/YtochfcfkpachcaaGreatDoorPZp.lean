/- Plain laws of chapter 7: why a permit is not opened. Plain laws of chapter 7: the people in the spaces, in the order of their names. Plain laws of chapter 7: what the program's office does. Plain laws of chapter 7: each event in the program's office. Plain laws of chapter 7: the program's office does what the office by names does. Plain laws of chapter 7: the examples. Plain laws of chapter 7: what the statements share. No condition. -/
import Derived.Test.YtochfcfkpachcaaGreatDoorPZn
import Derived.Test.YtochfcfkpachcaaGreatDoorGPure
import Derived.ProofKit
namespace Go.KB
set_option linter.unusedVariables false
def P9 {S R:Type} (Y:S→R→Option (S×Bool)):List R→S→Option S
 | [],s=>some s
 | r :: l,s=>(Y s r).bind fun v=>bif v.2 then P9 Y l v.1 else some v.1
theorem yloop {S:Type} {N:Nat} {Y:S→bg→Option (S×Bool)} {l:List bg} {s:S} (hl:l.length<1000) (hN:1000000≤N):((eF (gu N Y l) N (0,s)).bind fun PW=>Sum.elim (fun l17=>some l17) (fun W9=>some W9) PW)=P9 Y (l.filter fun r=>!r.Names.isEmpty) s:=by
 have key:∀ k i s,i+k=l.length→∀ M,k<M→((eF (gu N Y l) M ((i:Int),s)).bind fun PW=>Sum.elim (fun l17=>some l17) (fun W9=>some W9) PW)=P9 Y ((l.drop i).filter fun r=>!r.Names.isEmpty) s:=by
  intro k
  induction k with
  | zero =>
   intro i s hi M hM
   obtain ⟨M,rfl⟩:∃ m,M=m+1:=⟨M - 1,by omega⟩
   have:i=l.length:=by omega
   subst this
   have e:gu N Y l ((l.length:Int),s)=some (.inr (Sum.inl s)):=by
    unfold gu
    simp only []
    rw [dw,dF (by omega),nN]
   simp only [eF,e,List.drop_length];rfl
  | succ k ih =>
   intro i s hi M hM
   obtain ⟨M,rfl⟩:∃ m,M=m+1:=⟨M - 1,by omega⟩
   have hil:i<l.length:=by omega
   have e:gu N Y l ((i:Int),s)=bif !l[i].Names.isEmpty then (Y s l[i]).bind (fun v=>bif v.2 then some (.inl (((i+1:Nat):Int),v.1)) else some (.inr (.inr v.1))) else some (.inl (((i+1:Nat):Int),s)):=by
    unfold gu
    simp only []
    rw [dw,dT (by omega),ni,jI hil,bS,gt0,rJ (by omega)]
    cases l[i].Names.isEmpty with
    | true=>rfl
    | false =>
     simp only [Bool.not_false,ni,Bool.true_and]
     congr 1
     funext v
     cases v.2 <;> rfl
   simp only [eF,e]
   rw [drop_at hil,List.filter_cons]
   cases hn:l[i].Names.isEmpty with
   | true=>simp only [Bool.not_true,nN];exact ih (i+1) s (by omega) M (by omega)
   | false =>
    simp only [Bool.not_false,ni,if_true,P9]
    cases hy:Y s l[i] with
    | none=>rfl
    | some v =>
     simp only [bS]
     cases hv:v.2 with
     | false=>rfl
     | true=>simp only [ni];exact ih (i+1) v.1 (by omega) M (by omega)
 simpa using key l.length 0 s (by omega) N (by omega)
theorem FW {p:GPermitPlan} {A:AO} {N:Nat} {f:(List Str×Int)→Option ((List Str×Int) ⊕ List Str)} {so:aP→Bool} (hp:H8 p) (hN:1000000≤N) (hf:∀ (i:Nat) (hi:i<p.aH.length) (acc:List Str),acc.length<1000000→f (acc,(i:Int))=bif decide (stA A p.aH[i].Name=2)&&so p.aH[i] then ((app acc [p.aH[i].Name]).bind fun v=>some (.inl (v,((i+1:Nat):Int)))) else some (.inl (acc,((i+1:Nat):Int)))) (he:∀ acc,f (acc,(p.aH.length:Int))=some (.inr acc)):eF f N ([],0)=some (nC p A so):=by
 have hm:=hp.m
 have hlim:lim ≥ 10000000:=by decide
 rw [Nw (f:=f) p.aH [] (fun x=>decide (stA A x.Name=2)&&so x) (fun x=>x.Name) (fun a i=>(a,i)) (fun a=>a) (fun i hi acc hacc=>?_) he (by omega)]
 ·rfl
 ·simp only [List.length_nil] at hacc
  rw [hf i hi acc (by omega)]
  cases (decide (stA A p.aH[i].Name=2)&&so p.aH[i]) with
  | false=>rfl
  | true=>simp only [ni];rw [FQ (by simp only [List.length_singleton];omega)];rfl
section
variable {N:Nat} {p:GPermitPlan} {A:AO} {g:af} {st:List (Str×ah)} {mP:List (Str×ai)} {pe:List (Str×Str)} (hp:H8 p) (ho:H6 p) (hN:1000000≤N) (h:RelA p A g st mP pe) (b:MS A)
include hp hN h
theorem Zv {x:aP}:iy N g st mP pe x=some (nC p A fun y=>yY p y x):=by
 have hm:=hp.m
 unfold iy
 rw [FW (f:=fP N g st mP pe x) (A:=A) (so:=fun y=>yY p y x) hp hN (fun i hi acc hacc=>?_) (fun acc=>?_)]
 ·rfl
 ·unfold fP
  simp only []
  rw [h.b.plan,dw,dT (by omega),ni,jI hi,bS,H9 hN h.st (GH hi) (by decide),bS,rJ (by omega)]
  have hc:([2]:List Int).contains (stA A p.aH[i].Name)=decide (stA A p.aH[i].Name=2):=by rw [Bool.eq_iff_iff];simp
  have hq:kC N g st mP pe p.aH[i] x=some (yY p p.aH[i] x):=by
   unfold kC
   rw [h.b.plan,Uo hp hN];rfl
  rw [hc,hq]
  cases decide (stA A p.aH[i].Name=2) with
  | false=>rfl
  | true=>rfl
 ·unfold fP
  simp only []
  rw [h.b.plan,dw,dF (by omega),nN]
end
end Go.KB
namespace Go.KB
set_option linter.unusedVariables false
theorem XK (a b c:Str) (h1:a≤b) (h2:b≤c):a≤c:=List.le_trans h1 h2
theorem XL (a b:Str):a≤b∨b≤a:=List.le_total a b
theorem SB (a b:Str) (h1:a≤b) (h2:b≤a):a=b:=Std.Antisymm.antisymm (r:=(· ≤ ·)) a b h1 h2
theorem slt_le {a b:Str} (h:a<b):a≤b:=List.le_of_lt h
theorem SC {l m:List Str} (hp:l.Perm m) (hs:m.Pairwise (fun a b=>a<b)):Gw l=m:=by
 unfold Gw
 refine List.Perm.eq_of_pairwise (le:=fun a b:Str=>a≤b) (fun a b _ _ h1 h2=>SB a b h1 h2) ?_ (hs.imp fun h=>slt_le h) ((List.mergeSort_perm _ _).trans hp)
 have:=List.pairwise_mergeSort (le:=fun x y:Str=>decide (x≤y)) (fun a b c h1 h2=>decide_eq_true (XK a b c (of_decide_eq_true h1) (of_decide_eq_true h2))) (fun a b=>by
  rcases XL a b with h | h <;> simp [h]) l
 exact this.imp fun h=>of_decide_eq_true h
theorem XM {f:List Str→(Str×Str)→Option (List Str)} {so:Str→Bool} (π:List (Str×Str)) (hf:∀ acc q,q ∈ π→acc.length<1000000→f acc q=some (bif so q.2 then acc ++ [q.1] else acc)):∀ acc,acc.length+π.length<1000000→J9 f π acc=some (acc ++ (π.filter fun q=>so q.2).map fun q=>q.1):=by
 induction π with
 | nil=>intro acc _;simp [J9]
 | cons q r ih =>
  intro acc h
  simp only [List.length_cons] at h
  unfold J9
  rw [hf acc q List.mem_cons_self (by omega),bS,ih (fun acc q hq=>hf acc q (List.mem_cons_of_mem _ hq)) _ (by cases so q.2 <;> simp <;> omega),List.filter_cons]
  cases so q.2 <;> simp
theorem Ue {A:AO} {so:Str→Bool}:(yJ A so).length≤A.pp.length:=by
 unfold yJ;rw [List.length_map];exact List.length_filter_le _ _
theorem OU {A : AO} {pe : List (Str × Str)} {f : List Str → (Str × Str) → Option (List Str)} {so : Str → Bool} (hpe : pe.Perm A.pp) (hpp : A.pp.Pairwise (fun a b => a.1 < b.1)) (hl : A.pp.length < 1000000) (hf : ∀ acc q, q ∈ pe → acc.length < 1000000 → f acc q = some (bif so q.2 then acc ++ [q.1] else acc)) :
    (Hy pe fun q=>(J9 f q []).bind fun s=>(QB s).bind fun v=>some v)=some (yJ A so):=by
  refine Xo fun π hπ=>?_
  have hp:π.Perm A.pp:=hπ.trans hpe
  have hlen:π.length=A.pp.length:=hp.length_eq
  rw [XM (so:=so) π (fun acc q hq h=>hf acc q (hπ.mem_iff.1 hq) h) [] (by simp;omega),bS,List.nil_append]
  have hs:QB ((π.filter fun q=>so q.2).map fun q=>q.1)=some (yJ A so):=by
    unfold QB
    have h1:((π.filter fun q=>so q.2).map fun q=>q.1).length≤1000000:=by
      rw [List.length_map];have:=List.length_filter_le (fun q:Str×Str=>so q.2) π;omega
    rw [Nat.ble_eq_true_of_le h1,ni]
    congr 1
    refine SC ((hp.filter _).map _) ?_
    unfold yJ
    rw [List.pairwise_map]
    exact List.Pairwise.filter _ hpp
  rw [hs];rfl
end Go.KB
namespace Go.KB
set_option linter.unusedVariables false
theorem ne0 {α:Type} {l:List α}:aS .eql (List.length l:Int) 0=l.isEmpty:=by
 rw [uz]
 cases l with
 | nil=>rfl
 | cons x r=>simp;omega
def Zw (R:AO×List Str×Int) (a b:List (Str×ah)):List (Str×ah)×ax:=(bif decide (R.2.2=0) then a else b,⟨R.2.1,R.2.2⟩)
theorem Uu {A:AO} {e:Int} {l:List Str} {a b:List (Str×ah)} (he:e≠0):Zw (zl A e l) a b=(b,⟨l,e⟩):=by
 show ((bif decide (e=0) then a else b),(⟨l,e⟩:ax))=_
 rw [dF he];rfl
theorem VB {l:List bg} {g:ax→bg→Option (ax×Option Nat)} (hg:∀ s r,g s r=some (⟨r.Names,r.Err⟩,some 0)):P9 (yl g 1) l ((⟨[],0⟩:ax),none)=some (match l with | []=>(⟨[],0⟩,none) | r :: _=>(⟨r.Names,r.Err⟩,some 0)):=by
 cases l with
 | nil=>rfl
 | cons r l =>
  unfold P9 yl
  simp only [hg]
  rfl
theorem WQ {p:GPermitPlan} {A:AO} {x:aP}:∀ r ∈ Ew p A x,r.Err≠0:=by
 intro r hr
 unfold Ew at hr
 rcases List.mem_append.1 hr with hr | hr
 ·cases hd:decide (A.now<x.From) with
  | false=>rw [hd] at hr;cases hr
  | true=>rw [hd,ni,List.mem_singleton] at hr;subst hr;decide
 ·have hr:=(List.mem_filter.1 hr).1
  rcases List.mem_append.1 hr with hr | hr
  ·simp only [List.mem_cons,List.not_mem_nil,or_false] at hr
   rcases hr with rfl | rfl | rfl <;> simp
  ·cases hd:decide (x.Kind=3) with
   | false=>rw [hd] at hr;cases hr
   | true=>rw [hd,ni,List.mem_singleton] at hr;subst hr;simp
section
variable {N:Nat} {p:GPermitPlan} {A:AO} {g:af} {st:List (Str×ah)} {mP:List (Str×ai)} {pe:List (Str×Str)} (hp:H8 p) (ho:H6 p) (hN:1000000≤N) (h:RelA p A g st mP pe) (b:MS A) (hpp:A.pp.Pairwise (fun a b=>a.1<b.1))
include hp hN h
theorem ND {φ:aP→Option Bool} {so:aP→Bool} (hφ:∀ y ∈ p.aH,φ y=some (so y)):iG N g st mP pe φ=some (nC p A so):=by
 have hm:=hp.m
 unfold iG
 rw [FW (f:=kT N g st mP pe φ) (A:=A) (so:=so) hp hN (fun i hi acc hacc=>?_) (fun acc=>?_)]
 ·rfl
 ·unfold kT
  simp only []
  rw [h.b.plan,dw,dT (by omega),ni,jI hi,bS,H9 hN h.st (GH hi) (by decide),bS,rJ (by omega)]
  have hc:([2]:List Int).contains (stA A p.aH[i].Name)=decide (stA A p.aH[i].Name=2):=by rw [Bool.eq_iff_iff];simp
  rw [hc,hφ _ (List.getElem_mem hi)]
  cases decide (stA A p.aH[i].Name=2) <;> rfl
 ·unfold kT
  simp only []
  rw [h.b.plan,dw,dF (by omega),nN]
theorem XO {s:Str}:pF N g st mP pe s=some (vH p A s):=by
 unfold pF vH
 rw [ND hp hN h (so:=fun y=>decide (y.Kind=1)&&decide (y.Space=s)) (fun y _=>by unfold eX;rw [uz,uj]),bS,gt0]
include b hpp
omit hp hN in
theorem VD {φ:Str→Option Bool} {so:Str→Bool} (hφ:∀ s,φ s=some (so s)):lX N g st mP pe φ=some (yJ A so):=by
 have hlim:lim ≥ 10000000:=by decide
 unfold lX
 refine OU (f:=ny N φ) h.pe hpp b.pl fun acc q _ hacc=>?_
 unfold ny
 rw [hφ,bS]
 cases so q.2 with
 | false=>rfl
 | true=>rw [ni,ni,FQ (by simp only [List.length_singleton];omega)];rfl
theorem Uw {x:aP}:gY N g st mP pe x=some (yJ A fun s=>decide (pI p s x.Space≤1)):=by
 have hlim:lim ≥ 10000000:=by decide
 unfold gY
 refine OU (f:=gK N g st mP x) (so:=fun s=>decide (pI p s x.Space≤1)) h.pe hpp b.pl fun acc q _ hacc=>?_
 unfold gK kK
 rw [h.b.plan,KG hp hN,bS,bS,zy]
 cases decide (pI p q.2 x.Space≤1) with
 | false=>rfl
 | true=>rw [ni,ni,FQ (by simp only [List.length_singleton];omega)];rfl
include ho
theorem OT {S:Type} {Y:S→bg→Option (S×Bool)} {y0:S} {x:aP} (hx:x ∈ p.aH):iP N Y y0 g st mP pe x=P9 Y (Ew p A x) y0:=by
 have hlim:lim ≥ 10000000:=by decide
 unfold iP Ew
 rw [dw,h.b.now,MC hp hN h.st (hp.l _ hx) (fun l hl=>(ho.lk _ hx l hl).1),Zv hp hN h,Py hp hN h.b b,Uw hp hN h b hpp,uz]
 simp only [bS]
 have hl:((bif decide (x.Kind=3) then ((app [(⟨18,JC A x⟩:bg),(⟨20,nC p A fun y=>yY p y x⟩:bg),(⟨21,Aq p A x⟩:bg)] [(⟨17,yJ A fun s=>decide (pI p s x.Space≤1)⟩:bg)]).bind fun v6=>some v6) else (some [(⟨18,JC A x⟩:bg),(⟨20,nC p A fun y=>yY p y x⟩:bg),(⟨21,Aq p A x⟩:bg)])):Option (List bg))=some ([(⟨18,JC A x⟩:bg),(⟨20,nC p A (fun y=>yY p y x)⟩:bg),(⟨21,Aq p A x⟩:bg)] ++ (bif decide (x.Kind=3) then [(⟨17,yJ A (fun s=>decide (pI p s x.Space≤1))⟩:bg)] else [])):=by
  cases decide (x.Kind=3) with
  | false=>rfl
  | true=>rw [ni,FQ (by simp only [List.length_cons,List.length_nil];omega)];rfl
 rw [hl]
 simp only [bS]
 have hlen:([(⟨18,JC A x⟩:bg),(⟨20,nC p A (fun y=>yY p y x)⟩:bg),(⟨21,Aq p A x⟩:bg)] ++ (bif decide (x.Kind=3) then [(⟨17,yJ A (fun s=>decide (pI p s x.Space≤1))⟩:bg)] else [])).length<1000:=by
  cases decide (x.Kind=3) <;> simp
 simp only [yloop hlen hN]
 cases hd:decide (A.now<x.From) with
 | false=>simp only [nN,bS,Bool.false_and,List.nil_append]
 | true =>
  simp only [ni,Bool.true_and,List.singleton_append,P9]
  congr 1
  funext v
  cases v.2 <;> rfl
theorem Zx {x:GEvent} (hh:lZ p x.Name=true):nT N g st mP pe x=some (Zw (xR p A x) (qM st x.Name { A.es x.Name with state:=2 }) st):=by
 have hm:=hp.m
 unfold nT xR
 rw [Ar (by omega),bS,uj,h.st.get _ hh]
 cases iI x.Person with
 | false=>rfl
 | true =>
  cases decide (x.Person=(A.es x.Name).IU) with
  | true=>rfl
  | false =>
   simp only [Bool.not_true,nN]
   rw [h.b.plan,Cb (by omega) hN,bS]
   unfold kU
   rw [bS]
   show ((iP N (yl (jG N) 1) ((⟨[],0⟩:ax),none) g st mP pe (qK p x.Name)).bind _)=_
   rw [OT hp ho hN h b hpp (zk hh).1,VB (g:=jG N) (fun s r=>rfl),bS]
   have hw:=WQ (p:=p) (A:=A) (x:=qK p x.Name)
   cases hwy:Ew p A (qK p x.Name) with
   | nil =>
    simp only [Jw]
    unfold fZ
    rw [h.st.get _ hh];rfl
   | cons r l =>
    have h0:r.Err≠0:=hw r (by rw [hwy];exact List.mem_cons_self)
    show (bif decide True then some (st,(⟨r.Names,r.Err⟩:ax)) else none)=some (Zw (zl A r.Err r.Names) _ st)
    rw [Uu h0];rfl
omit ho in
theorem XP {x:GEvent} (hh:lZ p x.Name=true):nH N g st mP pe x=some (Zw (x9 p A x) (qM st x.Name { A.es x.Name with state:=4 }) st):=by
  have hm:=hp.m
  have hs:=hp.s
  obtain ⟨hy,hyn⟩:=zk hh
  have hb:fZ N g st mP pe x.Name 4=some (qM st x.Name { A.es x.Name with state:=4 }):=by
    unfold fZ;rw [h.st.get _ hh]
  unfold nH x9
  rw [h.b.plan,Cb (by omega) hN,bS]
  show ((iY N p (qK p x.Name).Space).bind fun v2=>_)=_
  rw [yK (by omega) hN,bS]
  simp only []
  have e1:iG N g st mP pe (fun y0=>jZ N y0 (qK p x.Name))=some (nC p A (fun z=>Me z.Locks (qK p x.Name).Name)):=ND hp hN h fun y hy=>by
    unfold jZ;rw [PE (Nat.lt_trans (hp.l y hy) (by decide)) hN];rfl
  have e2:iG N g st mP pe (fun y0=>ku N y0 (qK p x.Name))=some (nC p A (fun z=>decide (z.Kind=1)&&decide (z.Space=(qK p x.Name).Space) && !decide (z.Name=(qK p x.Name).Name))):=ND hp hN h fun y hy=>by
    unfold ku;rw [uz,uj,KC]
  have e3:lX N g st mP pe (fun y0=>kz N y0 (qK p x.Name))=some (yJ A (fun s=>decide (s=(qK p x.Name).Space))):=VD h b hpp fun s=>by
    unfold kz;rw [uj]
  have e4:fE N g st mP pe (qK p x.Name).Name [2]=some (decide (stA A (qK p x.Name).Name=2)):=by
    rw [H9 hN h.st (by rw [hyn];exact hh) (by decide)]
    congr 1;rw [Bool.eq_iff_iff];simp
  show (((bif aS .eql (qK p x.Name).Kind 5 then ((iG N g st mP pe (fun y0=>jZ N y0 (qK p x.Name))).bind fun v3=>bif (aS .gtr (List.length v3:Int) 0) then ((kE N 20 v3).bind fun v4=>some (Sum.inr v4)) else (some (Sum.inl (⟨[],0⟩:ax)))) else ((bif aS .eql (qK p x.Name).Kind 1 then (fE N g st mP pe (qK p x.Name).Name [2]) else some false).bind fun v6=>bif ((aS .eql (qK p x.Name).Kind 1&&v6)&&(zM p (qK p x.Name).Space).fG) then ((iG N g st mP pe (fun y0=>ku N y0 (qK p x.Name))).bind fun v7=>(lX N g st mP pe (fun y0=>kz N y0 (qK p x.Name))).bind fun v8=>bif (aS .eql (List.length v7:Int) 0&&aS .gtr (List.length v8:Int) 0) then ((kE N 21 v8).bind fun v9=>some (Sum.inr v9)) else (some (Sum.inl (⟨[],0⟩:ax)))) else (some (Sum.inl (⟨[],0⟩:ax))))):Option (ax ⊕ ax)).bind fun ZF=>Sum.elim (fun l15=>(fZ N g st mP pe x.Name 4).bind fun v17=>some (v17,(⟨[],0⟩:ax))) (fun r16=>some (st,r16)) ZF)=_
  rw [e1,e2,e3,e4,hb]
  simp only [bS,gt0,ne0]
  simp only [uz]
  unfold kE
  by_cases h5:(qK p x.Name).Kind=5
  · rw [dT h5, dF (show ¬ (qK p x.Name).Kind = 1 by omega)]
    simp only [ni,Bool.true_and,Bool.false_and,nN]
    cases (nC p A (fun z=>Me z.Locks (qK p x.Name).Name)).isEmpty <;> rfl
  · rw [dF h5]
    simp only [nN,Bool.false_and]
    cases decide ((qK p x.Name).Kind=1) with
    | false=>rfl
    | true =>
      simp only [ni,Bool.true_and,bS]
      cases decide (stA A (qK p x.Name).Name=2) with
      | false=>rfl
      | true =>
        cases (zM p (qK p x.Name).Space).fG with
        | false=>rfl
        | true =>
          simp only [Bool.true_and,ni]
          cases (nC p A (fun z=>decide (z.Kind=1)&&decide (z.Space=(qK p x.Name).Space) && !decide (z.Name=(qK p x.Name).Name))).isEmpty with
          | false=>rfl
          | true=>cases (yJ A (fun s=>decide (s=(qK p x.Name).Space))).isEmpty <;> rfl
end
end Go.KB
namespace Go.KB
set_option linter.unusedVariables false
theorem Ux {α β:Type} [DecidableEq α] {k:α} {y:β}:∀ {m:List (α×β)},kJ m k=false→qM m k y=m ++ [(k,y)]
 | [],_=>rfl
 | q :: r,h=>by
  unfold kJ at h
  rw [Bool.or_eq_false_iff] at h
  unfold qM
  rw [h.1,nN,Ux h.2];rfl
theorem Uy {β : Type} {k : Str} : ∀ {m : List (Str × β)}, kJ m k = m.any fun q => decide (q.1 = k)
  | []=>rfl
  | q :: r=>by
    unfold kJ
    rw [List.any_cons,Uy,show decide (k=q.1)=decide (q.1=k) from decide_eq_decide.2 ⟨Eq.symm,Eq.symm⟩]
theorem Zy {α:Type} {l m:List α} {f:α→Bool} (h:l.Perm m):l.any f=m.any f:=by
 rw [Bool.eq_iff_iff,List.any_eq_true,List.any_eq_true]
 exact ⟨fun ⟨x,a,b⟩=>⟨x,h.mem_iff.1 a,b⟩,fun ⟨x,a,b⟩=>⟨x,h.mem_iff.2 a,b⟩⟩
theorem Uz {n s:Str}:∀ {l:List (Str×Str)},(LG l n s).Perm ((n,s) :: l)
 | []=>List.Perm.refl _
 | q :: r=>by
  unfold LG
  cases decide (q.1<n) with
  | false=>exact List.Perm.refl _
  | true=>exact (Uz.cons q).trans (List.Perm.swap _ _ _)
theorem MH {β : Type} {k : Str} : ∀ {m : List (Str × β)}, (m.map fun q => q.1).Nodup → Ho m k = m.filter fun q => !decide (q.1 = k)
  | [],_=>rfl
  | q :: r,h=>by
    rw [List.map_cons,List.nodup_cons] at h
    unfold Ho
    rw [List.filter_cons]
    by_cases hk:k=q.1
    · rw [dT hk,dT hk.symm,ni]
      simp only [Bool.not_true,Bool.false_eq_true,if_false]
      refine (List.filter_eq_self.2 fun a ha=>?_).symm
      rw [Bool.not_eq_true',decide_eq_false_iff_not]
      intro he
      exact h.1 (List.mem_map.2 ⟨a,ha,he.trans hk⟩)
    · rw [dF hk,dF (fun e=>hk e.symm),nN,MH h.2];rfl
theorem Zz {l:List (Str×Str)} (h:l.Pairwise (fun a b=>a.1<b.1)):(l.map fun q=>q.1).Nodup:=by
 unfold List.Nodup
 rw [List.pairwise_map]
 exact h.imp fun {a b} hab he=>by
  have hab':a.1<b.1:=hab
  rw [he] at hab'
  exact List.lt_irrefl _ hab'
theorem Ij {N:Nat} {p:GPermitPlan} {s:Str} (hp:H8 p) (hN:1000000≤N):iY N p s=some (zM p s,yg p s):=by
 have:=hp.s
 rw [yK (by omega) hN]
 exact congrArg some (Prod.ext rfl FV)
theorem SE {N:Nat} {p:GPermitPlan} {s:Str} (hp:H8 p) (hN:1000000≤N):mQ N p s=some (qK p s,lZ p s):=by
 have:=hp.m
 rw [Cb (by omega) hN]
 exact congrArg some (Prod.ext rfl FV)
structure MZ (p:GPermitPlan) (g:af) (R:AO×List Str×Int) (o:List (Str×ah)×List (Str×ai)×List (Str×Str)×ax):Prop where
 rel:RelA p R.1 g o.1 o.2.1 o.2.2.1
 ref:o.2.2.2=⟨R.2.1,R.2.2⟩
theorem RelA.up {p:GPermitPlan} {A:AO} {g:af} {st:List (Str×ah)} {mP:List (Str×ai)} {pe:List (Str×Str)} (h:RelA p A g st mP pe) {n:Str} (hn:lZ p n=true) (e:ah):RelA p (ZI A n e) g (qM st n e) mP pe :=
 ⟨⟨h.b.plan,h.b.now,h.b.Pv,h.b.Px⟩,h.st.set hn e,h.pe,h.done⟩
section
variable {N:Nat} {p:GPermitPlan} {A:AO} {g:af} {st:List (Str×ah)} {mP:List (Str×ai)} {pe:List (Str×Str)} (hp:H8 p) (ho:H6 p) (hN:1000000≤N) (h:RelA p A g st mP pe) (b:MS A) (hpp:A.pp.Pairwise (fun a b=>a.1<b.1))
theorem yX (h:RelA p A g st mP pe) {e:Int} {l:List Str}:MZ p g (zl A e l) (st,mP,pe,⟨l,e⟩):=⟨h,rfl⟩
include hN h
theorem UA {x:GEvent} (hh:lZ p x.Name=true):∃ o,((oM N g st mP pe x).bind fun y=>some (y.1,mP,pe,y.2))=some o∧MZ p g (vG A x) o:=by
 unfold oM vG
 rw [Ar (by omega),bS,h.st.get _ hh]
 cases iI x.Person with
 | false=>exact ⟨_,rfl,yX h⟩
 | true=>exact ⟨_,rfl,h.up hh _,rfl⟩
theorem VE {x:GEvent} (hh:lZ p x.Name=true):∃ o,((pG N g st mP pe x).bind fun y=>some (y.1,mP,pe,y.2))=some o∧MZ p g (xZ A x) o:=by
 unfold pG xZ
 rw [Ar (by omega),bS,h.st.get _ hh,zy,wB]
 cases iI x.Person with
 | false=>exact ⟨_,rfl,yX h⟩
 | true =>
  cases (decide (x.To≤(A.es x.Name).wo)||decide (1000000<x.To)) with
  | true=>exact ⟨_,rfl,yX h⟩
  | false=>exact ⟨_,rfl,h.up hh _,rfl⟩
omit hN in
theorem PL {x:GEvent} {k:Int} (hh:lZ p x.Name=true):∃ o,(((fZ N g st mP pe x.Name k).bind fun v1=>some (v1,(⟨[],0⟩:ax))).bind fun y=>some (y.1,mP,pe,y.2))=some o∧MZ p g (Gz (beA A x.Name k)) o:=by
 unfold fZ
 rw [h.st.get _ hh]
 exact ⟨_,rfl,h.up hh _,rfl⟩
include hp b hpp ho
theorem QJ {x:GEvent} (hh:lZ p x.Name=true):∃ o,((nT N g st mP pe x).bind fun y=>some (y.1,mP,pe,y.2))=some o∧MZ p g (xR p A x) o:=by
 rw [Zx hp ho hN h b hpp hh]
 refine ⟨_,rfl,?_,rfl⟩
 simp only []
 unfold xR
 cases iI x.Person with
 | false=>exact h
 | true =>
  cases decide (x.Person=(A.es x.Name).IU) with
  | true=>exact h
  | false =>
   simp only [Bool.not_true,nN]
   have hw:=WQ (p:=p) (A:=A) (x:=qK p x.Name)
   cases hwy:Ew p A (qK p x.Name) with
   | nil=>exact h.up hh _
   | cons r l =>
    have h0:r.Err≠0:=hw r (by rw [hwy];exact List.mem_cons_self)
    show RelA p A g (Zw (zl A r.Err r.Names) _ st).1 mP pe
    rw [Uu h0];exact h
omit ho in
theorem VF {x:GEvent} (hh:lZ p x.Name=true):∃ o,((nH N g st mP pe x).bind fun y=>some (y.1,mP,pe,y.2))=some o∧MZ p g (x9 p A x) o:=by
 rw [XP hp hN h b hpp hh]
 refine ⟨_,rfl,?_,rfl⟩
 simp only []
 unfold x9
 simp only []
 cases (decide ((qK p x.Name).Kind=5) && !(nC p A (fun z=>Me z.Locks (qK p x.Name).Name)).isEmpty) with
 | true=>exact h
 | false =>
  rw [nN]
  cases (decide ((qK p x.Name).Kind=1)&&decide (stA A (qK p x.Name).Name=2)&&(zM p (qK p x.Name).Space).fG&&(nC p A (fun z=>decide (z.Kind=1)&&decide (z.Space=(qK p x.Name).Space) && !decide (z.Name=(qK p x.Name).Name))).isEmpty && !(yJ A (fun s=>decide (s=(qK p x.Name).Space))).isEmpty) with
  | true=>exact h
  | false=>exact h.up hh _
omit ho hpp b
theorem jJ0 {x:GEvent}:∃ o,((qY N g st mP pe x).bind fun y=>some (st,y.1,pe,y.2))=some o∧MZ p g (Kw p A x) o:=by
 have hs:=hp.s
 unfold qY Kw
 rw [h.b.plan,Ij hp hN,bS]
 simp only [dw,wB]
 cases yg p x.Space with
 | false=>exact ⟨_,rfl,yX h⟩
 | true =>
  simp only [Bool.not_true,nN]
  cases (decide (x.rU<0)||decide (1000<x.rU)||decide (x.Mc<0)||decide (1000<x.Mc)) with
  | true=>exact ⟨_,rfl,yX h⟩
  | false =>
   refine ⟨_,rfl,⟨⟨h.b.plan,h.b.now,fun s=>?_,fun s t e=>?_⟩,h.st,h.pe,h.done⟩,rfl⟩
   ·simp only [nN,Gz]
    rw [IQ,h.b.Pv]
    cases decide (s=x.Space) <;> rfl
   ·simp only [nN,Gz] at e ⊢
    rw [FX]
    by_cases he:s=x.Space
    ·rw [dT he] at e;cases e;rw [if_pos he,h.b.now]
    ·rw [dF he] at e;rw [if_neg he];exact h.b.Px s t e
theorem ZA {s:Str}:kM N g st mP pe (zM p s)=some (nC p A (fun y=>decide (y.Kind=3)&&decide (pI p y.Space (zM p s).Name≤1))):=by
 have hm:=hp.m
 unfold kM
 rw [FW (f:=iV N g st mP pe (zM p s)) (A:=A) (so:=fun y=>decide (y.Kind=3)&&decide (pI p y.Space (zM p s).Name≤1)) hp hN (fun i hi acc hacc=>?_) (fun acc=>?_)]
 ·rfl
 ·unfold iV
  simp only []
  rw [h.b.plan,dw,dT (by omega),ni,jI hi,bS,H9 hN h.st (GH hi) (by decide),bS,rJ (by omega)]
  have hc:([2]:List Int).contains (stA A p.aH[i].Name)=decide (stA A p.aH[i].Name=2):=by rw [Bool.eq_iff_iff];simp
  have hq:oK N g st mP pe p.aH[i] (zM p s)=some (decide (p.aH[i].Kind=3)&&decide (pI p p.aH[i].Space (zM p s).Name≤1)):=by
   unfold oK
   rw [h.b.plan,KG hp hN,uz]
   cases decide (p.aH[i].Kind=3) with
   | false=>rfl
   | true=>simp only [ni,bS,Bool.true_and,zy]
  rw [hc,hq]
  cases decide (stA A p.aH[i].Name=2) <;> rfl
 ·unfold iV
  simp only []
  rw [h.b.plan,dw,dF (by omega),nN]
theorem ZB {x:GEvent}:kN N g st mP pe x=some (nC p A (fun y=>!decide (y.Kind=5)&&decide (pI p y.Space x.Space≤1))):=by
 have hm:=hp.m
 unfold kN
 rw [FW (f:=iW N g st mP pe x) (A:=A) (so:=fun y=>!decide (y.Kind=5)&&decide (pI p y.Space x.Space≤1)) hp hN (fun i hi acc hacc=>?_) (fun acc=>?_)]
 ·rfl
 ·unfold iW
  simp only []
  rw [h.b.plan,dw,dT (by omega),ni,jI hi,bS,H9 hN h.st (GH hi) (by decide),bS,rJ (by omega)]
  have hc:([2]:List Int).contains (stA A p.aH[i].Name)=decide (stA A p.aH[i].Name=2):=by rw [Bool.eq_iff_iff];simp
  have hq:oL N g st mP pe p.aH[i] x=some (!decide (p.aH[i].Kind=5)&&decide (pI p p.aH[i].Space x.Space≤1)):=by
   unfold oL
   rw [h.b.plan,KG hp hN,qV]
   cases (!decide (p.aH[i].Kind=5)) with
   | false=>rfl
   | true=>simp only [ni,bS,Bool.true_and,zy]
  rw [hc,hq]
  cases decide (stA A p.aH[i].Name=2) <;> rfl
 ·unfold iW
  simp only []
  rw [h.b.plan,dw,dF (by omega),nN]
omit hp hN in
theorem LM {n:Str}:kJ pe n=xg A n:=by
 rw [Uy,Zy h.pe];rfl
theorem XQ {x:GEvent}:∃ o,((qf N g st mP pe x).bind fun y=>some (st,mP,y.1,y.2))=some o∧MZ p g (Ak p A x) o:=by
 have hs:=hp.s
 unfold qf Ak
 rw [Ar (by omega),bS,h.b.plan]
 cases iI x.Person with
 | false=>exact ⟨_,rfl,yX h⟩
 | true =>
  simp only [Bool.not_true,nN]
  rw [Ij hp hN,bS]
  simp only []
  cases hh:yg p x.Space with
  | false=>exact ⟨_,rfl,yX h⟩
  | true =>
   have hnm:=(Zi hh).2
   simp only [Bool.not_true,nN]
   rw [XO hp hN h,ZA hp hN h,LM h,hnm]
   cases hi:xg A x.Person with
   | true=>exact ⟨_,rfl,yX h⟩
   | false =>
    simp only [nN]
    have hx:((bif (zM p x.Space).fG then (some (vH p A x.Space)) else some false).bind fun v6=>(some (((zM p x.Space).fG&&(!v6))):Option Bool))=some ((zM p x.Space).fG && !vH p A x.Space):=by
     cases (zM p x.Space).fG <;> rfl
    have hx2:∀ (F:Bool→Option (List (Str×Str)×ax)),((bif (zM p x.Space).fG then (some (vH p A x.Space)) else some false).bind fun v6=>F ((zM p x.Space).fG&&(!v6)))=F ((zM p x.Space).fG && !vH p A x.Space):=by
     intro F;cases (zM p x.Space).fG <;> rfl
    rw [hx2 (fun c=>bif c then _ else _)]
    cases ((zM p x.Space).fG && !vH p A x.Space) with
    | true=>exact ⟨_,rfl,yX h⟩
    | false =>
     simp only [nN,bS,gt0]
     cases (!(nC p A (fun y=>decide (y.Kind=3)&&decide (pI p y.Space x.Space≤1))).isEmpty) with
     | true=>exact ⟨_,rfl,yX h⟩
     | false =>
      refine ⟨_,rfl,⟨⟨h.b.plan,h.b.now,h.b.Pv,h.b.Px⟩,h.st,?_,h.done⟩,rfl⟩
      show (qM pe x.Person x.Space).Perm (LG A.pp x.Person x.Space)
      rw [Ux (by rw [LM h];exact hi)]
      exact (List.perm_append_singleton _ _).trans ((h.pe.cons _).trans Uz.symm)
include hpp
omit hp in
theorem XR {x:GEvent}:∃ o,((qg N g st mP pe x).bind fun y=>some (st,mP,y.1,y.2))=some o∧MZ p g (Am A x) o:=by
 unfold qg Am
 rw [Ar (by omega),bS,LM h]
 cases iI x.Person with
 | false=>exact ⟨_,rfl,yX h⟩
 | true =>
  cases xg A x.Person with
  | false=>exact ⟨_,rfl,yX h⟩
  | true =>
   refine ⟨_,rfl,⟨⟨h.b.plan,h.b.now,h.b.Pv,h.b.Px⟩,h.st,?_,h.done⟩,rfl⟩
   show (Ho pe x.Person).Perm (A.pp.filter fun q=>!decide (q.1=x.Person))
   rw [MH]
   ·exact h.pe.filter _
   ·exact ((h.pe.map _).nodup_iff).2 (Zz hpp)
omit hpp
include ho
theorem XT {x:GEvent}:∃ o,((qh N g st mP pe x).bind fun y=>some (y.1,mP,pe,y.2))=some o∧MZ p g (Ap p A x) o:=by
 have hs:=hp.s
 have hm:=hp.m
 unfold qh Ap
 rw [h.b.plan,Ij hp hN,bS]
 simp only []
 cases yg p x.Space with
 | false=>exact ⟨_,rfl,yX h⟩
 | true =>
  simp only [Bool.not_true,nN]
  rw [ZB hp hN h,bS]
  have hmem:∀ s ∈ nC p A (fun y=>!decide (y.Kind=5)&&decide (pI p y.Space x.Space≤1)),lZ p s=true:=by
   intro s hs
   unfold nC at hs
   obtain ⟨y,hy,rfl⟩:=List.mem_map.1 hs
   exact BZ.2 ⟨y,(List.mem_filter.1 hy).1,rfl⟩
  have hlen:(nC p A (fun y=>!decide (y.Kind=5)&&decide (pI p y.Space x.Space≤1))).length≤p.aH.length:=by
   unfold nC;rw [List.length_map];exact List.length_filter_le _ _
  have hin:∀ s,lZ p s=true→Me (nC p A (fun y=>!decide (y.Kind=5)&&decide (pI p y.Space x.Space≤1))) s=(lZ p s&&decide (stA A s=2)&&(!decide ((qK p s).Kind=5)&&decide (pI p (qK p s).Space x.Space≤1))):=by
   intro s hs
   rw [hs,Bool.true_and,Bool.eq_iff_iff,jJa]
   unfold nC
   rw [List.mem_map]
   constructor
   ·rintro ⟨y,hy,rfl⟩
    obtain ⟨hy1,hy2⟩:=List.mem_filter.1 hy
    rw [ho.JB hy1];exact hy2
   ·intro hb
    obtain ⟨h1,h2⟩:=zk hs
    refine ⟨qK p s,List.mem_filter.2 ⟨h1,?_⟩,h2⟩
    rw [h2];exact hb
  generalize nC p A (fun y=>!decide (y.Kind=5)&&decide (pI p y.Space x.Space≤1))=L at hmem hlen hin
  have key:∃ st',eF (lN N g mP pe L) N (0,st)=some st'∧Pq p (fun n=>bif Me L n then ({ A.es n with state:=3 }:ah) else A.es n) st':=by
   refine H7 (N:=N) (n:=L.length) (f:=lN N g mP pe L) (s0:=(0,st)) (fun i s=>s.1=(i:Int)∧Pq p (fun n=>bif Me (L.take i) n then ({ A.es n with state:=3 }:ah) else A.es n) s.2) (fun st'=>Pq p (fun n=>bif Me L n then ({ A.es n with state:=3 }:ah) else A.es n) st') ⟨rfl,h.st.congr fun s _=>by unfold Me;simp⟩ (fun i s hi hs=>?_) (fun s hs=>?_) (by omega)
   ·obtain ⟨s1,st'⟩:=s
    obtain ⟨rfl,hr⟩:=hs
    simp only [] at hr
    have hn:=hmem _ (List.getElem_mem hi)
    refine ⟨_,by unfold lN fZ;simp only [];rw [dw,dT (by omega),ni,jI hi,bS,bS,rJ (by omega)],rfl,?_⟩
    refine (hr.set hn _).congr fun s hs=>?_
    simp only []
    rw [hr.get _ hn]
    have htk:Me (L.take (i+1)) s=(Me (L.take i) s||decide (s=L[i])):=by
     unfold Me;rw [List.take_succ_eq_append_getElem hi,List.any_append];simp
    rw [htk]
    by_cases he:s=L[i]
    ·subst he
     rw [dT rfl,Bool.or_true,ni,ni]
     cases Me (L.take i) L[i] <;> rfl
    ·rw [dF he,Bool.or_false];rfl
   ·obtain ⟨s1,st'⟩:=s
    obtain ⟨rfl,hr⟩:=hs
    refine ⟨st',?_,?_⟩
    ·unfold lN
     simp only []
     rw [dw,dF (by omega),nN]
    ·rw [List.take_length] at hr;exact hr
  obtain ⟨st',h1,h2⟩:=key
  rw [h1]
  refine ⟨_,rfl,⟨⟨h.b.plan,h.b.now,h.b.Pv,h.b.Px⟩,h2.congr fun s hs=>?_,h.pe,h.done⟩,rfl⟩
  show _=(bif lZ p s&&decide (stA A s=2)&&(!decide ((qK p s).Kind=5)&&decide (pI p (qK p s).Space x.Space≤1)) then ({ A.es s with state:=3 }:ah) else A.es s)
  rw [hin s hs]
end
end Go.KB
namespace Go.KB
set_option linter.unusedVariables false
instance:Inhabited bC:=⟨⟨[],[],[],none⟩⟩
def Bl:List bC:=(rW 0).getD []
theorem O0 {N:Nat}:rW N=some Bl:=rfl
def lM (op:Int):bC:=Bl[op.toNat]!
theorem PN {op:Int} (h0:0≤op) (h12:op<12):op=0∨op=1∨op=2∨op=3∨op=4∨op=5∨op=6∨op=7∨op=8∨op=9∨op=10∨op=11:=by omega
theorem Kz {op:Int} (h0:0≤op) (h12:op<12):idx Bl op=some (lM op):=by
 rcases PN h0 h12 with h | h | h | h | h | h | h | h | h | h | h | h <;> subst h <;> rfl
theorem UB {op:Int} (h0:0≤op) (h12:op<12):(lM op).states=(Aj op).getD []:=by
 rcases PN h0 h12 with h | h | h | h | h | h | h | h | h | h | h | h <;> subst h <;> rfl
theorem XU {op:Int} {l:List Int} (h:Aj op=some l):l.isEmpty=false∧l.length<100:=by
 unfold Aj at h
 repeat' split at h
 all_goals first | (cases h;exact ⟨rfl,by decide⟩) | cases h
section
variable {N:Nat} {p:GPermitPlan} {A:AO} {g:af} {st:List (Str×ah)} {mP:List (Str×ai)} {pe:List (Str×Str)} (hp:H8 p) (ho:H6 p) (hN:1000000≤N) (h:RelA p A g st mP pe) (b:MS A) (hpp:A.pp.Pairwise (fun a b=>a.1<b.1))
include hp hN h b hpp ho
theorem ZC {x:GEvent} (h0:0≤x.Op) (h12:x.Op<12) (hh:Aj x.Op≠none→lZ p x.Name=true):∃ o,Gm N g st mP pe (lM x.Op).Qo x=some o∧MZ p g (FT p A x) o:=by
  unfold Gm FT
  rcases PN h0 h12 with e | e | e | e | e | e | e | e | e | e | e | e
  · have hd : (lM x.Op).Qo = some 64 := by rw [e]; rfl
    rw [hd];simp only [e,Option.some.injEq,Nat.reduceEqDiff,decide_false,decide_true,nN,ni,if_false,Int.reduceEq]
    exact ⟨_,rfl,h,rfl⟩
  · have hd : (lM x.Op).Qo = some 65 := by rw [e]; rfl
    have hx:=hh (by rw [e];decide)
    rw [hd];simp only [e,Option.some.injEq,Nat.reduceEqDiff,decide_false,decide_true,nN,ni,if_false,Int.reduceEq]
    exact UA hN h hx
  · have hd : (lM x.Op).Qo = some 66 := by rw [e]; rfl
    have hx:=hh (by rw [e];decide)
    rw [hd];simp only [e,Option.some.injEq,Nat.reduceEqDiff,decide_false,decide_true,nN,ni,if_false,Int.reduceEq]
    exact QJ hp ho hN h b hpp hx
  · have hd : (lM x.Op).Qo = some 67 := by rw [e]; rfl
    have hx:=hh (by rw [e];decide)
    rw [hd];simp only [e,Option.some.injEq,Nat.reduceEqDiff,decide_false,decide_true,nN,ni,if_false,Int.reduceEq]
    exact PL h hx
  · have hd : (lM x.Op).Qo = some 66 := by rw [e]; rfl
    have hx:=hh (by rw [e];decide)
    rw [hd];simp only [e,Option.some.injEq,Nat.reduceEqDiff,decide_false,decide_true,nN,ni,if_false,Int.reduceEq]
    exact QJ hp ho hN h b hpp hx
  · have hd : (lM x.Op).Qo = some 68 := by rw [e]; rfl
    have hx:=hh (by rw [e];decide)
    rw [hd];simp only [e,Option.some.injEq,Nat.reduceEqDiff,decide_false,decide_true,nN,ni,if_false,Int.reduceEq]
    exact VF hp hN h b hpp hx
  · have hd : (lM x.Op).Qo = some 69 := by rw [e]; rfl
    have hx:=hh (by rw [e];decide)
    rw [hd];simp only [e,Option.some.injEq,Nat.reduceEqDiff,decide_false,decide_true,nN,ni,if_false,Int.reduceEq]
    exact PL h hx
  · have hd : (lM x.Op).Qo = some 70 := by rw [e]; rfl
    rw [hd];simp only [e,Option.some.injEq,Nat.reduceEqDiff,decide_false,decide_true,nN,ni,if_false,Int.reduceEq]
    exact jJ0 hp hN h
  · have hd : (lM x.Op).Qo = some 71 := by rw [e]; rfl
    rw [hd];simp only [e,Option.some.injEq,Nat.reduceEqDiff,decide_false,decide_true,nN,ni,if_false,Int.reduceEq]
    exact XQ hp hN h
  · have hd : (lM x.Op).Qo = some 72 := by rw [e]; rfl
    rw [hd];simp only [e,Option.some.injEq,Nat.reduceEqDiff,decide_false,decide_true,nN,ni,if_false,Int.reduceEq]
    exact XR hN h hpp
  · have hd : (lM x.Op).Qo = some 73 := by rw [e]; rfl
    rw [hd];simp only [e,Option.some.injEq,Nat.reduceEqDiff,decide_false,decide_true,nN,ni,if_false,Int.reduceEq]
    exact XT hp ho hN h
  · have hd : (lM x.Op).Qo = some 74 := by rw [e]; rfl
    have hx:=hh (by rw [e];decide)
    rw [hd];simp only [e,Option.some.injEq,Nat.reduceEqDiff,decide_false,decide_true,nN,ni,if_false,Int.reduceEq]
    exact VE hN h hx
end
theorem RelA.setNow {p:GPermitPlan} {A:AO} {g:af} {st:List (Str×ah)} {mP:List (Str×ai)} {pe:List (Str×Str)} (h:RelA p A g st mP pe) (t:Int):RelB p { A with now:=t } ({ g with now:=t }:af) mP:=⟨h.b.plan,rfl,h.b.Pv,h.b.Px⟩
def LP (p:GPermitPlan) (A:AO) (x:GEvent) (G:AO×List Str×Int):AO×List Str×Int:=bif decide (G.2.2=0) then (({ ig p G.1 with done:=A.done ++ [x] }:AO),[],0) else G
theorem UC {p:GPermitPlan} {A S:AO} {x:GEvent} {e:Int} {l:List Str} (he:e≠0):LP p A x (zl S e l)=zl S e l:=by
 unfold LP zl
 simp only []
 rw [dF he];rfl
theorem UD {p:GPermitPlan} {A:AO} {x:GEvent} {G:AO×List Str×Int} (he:G.2.2≠0):LP p A x G=G:=by
 unfold LP;rw [dF he];rfl
theorem WR {p:GPermitPlan} {A:AO} {x:GEvent} {G:AO×List Str×Int} (he:G.2.2=0):LP p A x G=(({ ig p G.1 with done:=A.done ++ [x] }:AO),[],0):=by
 unfold LP;rw [dT he];rfl
theorem Do_eq {N:Nat} {p:GPermitPlan} {A:AO} {g:af} {st:List (Str×ah)} {mP:List (Str×ai)} {pe:List (Str×Str)} (hp:H8 p) (ho:H6 p) (hN:1000000≤N) (h:RelA p A g st mP pe) (hi:RV p A) (hd:A.done.length<999999) (x:GEvent) :
    ∃ g' st' Ei OO,lI N g st mP pe x=some (g',st',Ei,OO,(zL p A x).2.1,(zL p A x).2.2)∧RelA p (zL p A x).1 g' st' Ei OO:=by
  have hlim:lim ≥ 10000000:=by decide
  have hm:=hp.m
  obtain ⟨gp,gn,gd⟩:=g
  have hg:p=gp:=h.b.plan.symm
  have hgn:gn=A.now:=h.b.now
  have hgd:gd=A.done:=h.done
  subst hg hgn hgd
  unfold lI zL
  rw [O0,bS]
  have hlen:(Bl.length:Int)=12:=rfl
  rw [hlen,dw,zx]
  by_cases hr:x.Op<0∨12≤x.Op∨x.At<0∨1000000<x.At
  · have hr' : (decide (x.Op < 0) || decide (12 ≤ x.Op) || decide (x.At < 0) || decide (1000000 < x.At)) = true := by simpa [or_assoc] using hr
    rw [hr',ni]
    refine ⟨⟨p,A.now,A.done⟩,st,mP,pe,?_,h⟩
    unfold ou
    rw [zx,zy]
    cases hc:(decide (x.Op<0)||decide (12≤x.Op)) with
    | true=>rfl
    | false =>
      simp only [Bool.not_false,ni,bS,Bool.false_or]
      have:(decide (0≤x.At)&&decide (x.At≤1000000))=false:=by
        rw [Bool.or_eq_false_iff,decide_eq_false_iff_not,decide_eq_false_iff_not] at hc
        rw [Bool.and_eq_false_iff,decide_eq_false_iff_not,decide_eq_false_iff_not];omega
      rw [this];rfl
  · have hr' : (decide (x.Op < 0) || decide (12 ≤ x.Op) || decide (x.At < 0) || decide (1000000 < x.At)) = false := by simp; omega
    rw [hr',nN]
    have hop:(decide (x.Op<0)||decide (12≤x.Op))=false:=by simp;omega
    have htm:ou N x.At=some true:=by
      unfold ou;rw [zx,zy,dT (by omega),dT (by omega)];rfl
    rw [hop,htm]
    simp only [Bool.not_false,ni,bS,Bool.not_true,Bool.or_self,nN,dw]
    by_cases hlt:x.At<A.now
    · rw [dT hlt];exact ⟨⟨p,A.now,A.done⟩,st,mP,pe,rfl,h⟩
    rw [dF hlt,nN,nN]
    have hw0:=hi.w
    have hw:WA p A.done { A with now:=x.At }:=hw0.le (fun s=>.inl rfl) (fun _=>rfl) ⟨by show A.now≤x.At;omega,by show x.At≤1000000;omega⟩ hw0.pp (fun s t e=>.inl e) hw0.pl
    have hb0:MS { A with now:=x.At }:=hw.bd (by omega)
    obtain ⟨st1,e1,r1⟩:=LH (pe:=pe) hp ho hN (h.setNow x.At) h.st hb0
    rw [e1,bS,Kz (by omega) (by omega),bS,UB (by omega) (by omega)]
    have hS:RelA p (ig p { A with now:=x.At }) (⟨p,x.At,A.done⟩:af) st1 mP pe:=⟨⟨rfl,rfl,h.b.Pv,h.b.Px⟩,r1,h.pe,h.done⟩
    have hbS:MS (ig p { A with now:=x.At }):=hb0.settle
    have hiS:RV p (ig p { A with now:=x.At }):=GI ho hw
    have hact:∀ (G:AO×List Str×Int),(∃ o,Gm N (⟨p,x.At,A.done⟩:af) st1 mP pe (lM x.Op).Qo x=some o∧MZ p (⟨p,x.At,A.done⟩:af) G o)→StepA p (ig p { A with now:=x.At }) x G→∃ g' st' Ei OO,((Gm N (⟨p,x.At,A.done⟩:af) st1 mP pe (lM x.Op).Qo x).bind fun v14=>bif (aS .neq v14.2.2.2.e 0) then (some ((⟨p,x.At,A.done⟩:af),v14.1,v14.2.1,v14.2.2.1,v14.2.2.2.names,v14.2.2.2.e)) else ((lJ N (⟨p,x.At,A.done⟩:af) v14.1 v14.2.1 v14.2.2.1).bind fun v15=>(app A.done [x]).bind fun v16=>some ((⟨p,x.At,v16⟩:af),v15,v14.2.1,v14.2.2.1,([]:List Str),(0:Int))))=some (g',st',Ei,OO,(LP p A x G).2.1,(LP p A x G).2.2)∧RelA p (LP p A x G).1 g' st' Ei OO:=by
      rintro G ⟨⟨a1,a2,a3,a4⟩,ho1,ho2⟩ hstep
      rw [ho1,bS]
      have hrel:=ho2.rel
      have href:a4=⟨G.2.1,G.2.2⟩:=ho2.ref
      simp only [] at hrel
      subst href
      simp only [qV]
      by_cases h0:G.2.2=0
      · rw [dT h0,WR h0]
        simp only [Bool.not_true,nN]
        have hw2:=hstep.2.1 _ hiS.w
        have hdn:(ig p { A with now:=x.At }).done=A.done:=rfl
        have hb2:MS G.1:=hw2.bd (by rw [List.length_append,hdn];simp only [List.length_singleton];omega)
        obtain ⟨st2,e2,r2⟩:=LH (pe:=a3) hp ho hN hrel.b hrel.st hb2
        rw [e2,bS,FQ (by simp only [List.length_singleton];omega),bS]
        exact ⟨_,_,_,_,rfl,⟨hrel.b.plan,hrel.b.now,hrel.b.Pv,hrel.b.Px⟩,r2,hrel.pe,rfl⟩
      · rw [dF h0,UD h0]
        exact ⟨_,_,_,_,rfl,hrel⟩
    have hdeed:=fun hh=>ZC hp ho hN hS hbS hiS.w.pp (x:=x) (by omega) (by omega) hh
    have hstep:=Pn ho (A:=ig p { A with now:=x.At }) (x:=x) (by omega) (by omega)
    show ∃ g' st' Ei OO,_=some (g',st',Ei,OO,(LP p A x (yI p (ig p { A with now:=x.At }) x)).2.1,(LP p A x (yI p (ig p { A with now:=x.At }) x)).2.2)∧RelA p (LP p A x (yI p (ig p { A with now:=x.At }) x)).1 g' st' Ei OO
    unfold yI at hstep ⊢
    cases hs:Aj x.Op with
    | none =>
      rw [hs] at hstep
      simp only [Option.getD_none,List.isEmpty_nil,Bool.not_true,nN,bS,Sum.elim_inl]
      exact hact _ (hdeed fun hn=>absurd hs hn) hstep
    | some l =>
      rw [hs] at hstep
      obtain ⟨hl1,hl2⟩:=XU hs
      simp only [Option.getD_some,hl1,Bool.not_false,ni] at hstep ⊢
      rw [SE hp hN,bS]
      simp only []
      cases hh:lZ p x.Name with
      | false=>simp only [Bool.not_false,ni];rw [UC (by decide)];exact ⟨_,_,_,_,rfl,hS⟩
      | true =>
        rw [hh] at hstep
        simp only [Bool.not_true,nN] at hstep ⊢
        rw [H9 hN r1 hh hl2,bS]
        cases hc:l.contains (stA (ig p { A with now:=x.At }) x.Name) with
        | false=>simp only [Bool.not_false,ni];rw [UC (by decide)];exact ⟨_,_,_,_,rfl,hS⟩
        | true =>
          rw [hc] at hstep
          simp only [Bool.not_true,nN,bS,Sum.elim_inl] at hstep ⊢
          exact hact _ (hdeed fun _=>hh) hstep
end Go.KB
namespace Go.KB
set_option maxRecDepth 100000
theorem OL:vT (2 ^ 70)=some true:=by kernel_rfl
end Go.KB
namespace Go.KB
set_option linter.unusedVariables false
theorem fit_eq {N:Nat} (p:GPermitPlan) (hN:1000000≤N):yH N p=some false∨(yH N p=some true∧H8 p∧uU p=0∧p.dA.length≤8∧p.aH.length≤8∧p.dR.length≤12):=by
 unfold yH
 rcases Zr p hN with hg | ⟨hg,hp,_⟩
 ·rw [hg];exact .inl rfl
 ·rw [hg,bS,Bool.not_false,ni,Qc hp hN,bS,Bool.true_and]
  simp only [uz,zy]
  by_cases h:uU p=0∧p.dA.length≤8∧p.aH.length≤8∧p.dR.length≤12
  ·refine .inr ⟨?_,hp,h⟩
   rw [dT h.1,dT (by omega),dT (by omega),dT (by omega)];rfl
  ·refine .inl ?_
   congr 1
   rw [Bool.eq_false_iff]
   intro hx
   simp only [Bool.and_eq_true,decide_eq_true_eq] at hx
   exact h (by omega)
section
variable {N:Nat} {p:GPermitPlan} {A:AO} {g:af} {st:List (Str×ah)} {mP:List (Str×ai)} {pe:List (Str×Str)}
theorem Uf (h:RelA p A g st mP pe) {n:Str}:lU N g st mP pe n=some (bif lZ p n then (stA A n,0) else (0,6)):=by
 unfold lU
 rw [h.st.has]
 cases hh:lZ p n with
 | false=>rfl
 | true=>rw [h.st.get _ hh];rfl
theorem Y7 (h:RelA p A g st mP pe):kP N g st mP pe=some A.now:=by
 unfold kP;rw [h.b.now]
theorem Wv (hp:H8 p) (hN:1000000≤N) (h:RelA p A g st mP pe):lu N g st mP pe=some (nC p A fun _=>true):=by
 unfold lu
 rw [ND hp hN h (φ:=fun y0=>jd N y0) (so:=fun _=>true) (fun _ _=>rfl)];rfl
end
theorem do_done {p:GPermitPlan} (ho:H6 p) {A:AO} {x:GEvent}:(zL p A x).1.done.length≤A.done.length+1:=by
  unfold zL
  by_cases hr:x.Op<0∨12≤x.Op∨x.At<0∨1000000<x.At
  · have hr' : (decide (x.Op < 0) || decide (12 ≤ x.Op) || decide (x.At < 0) || decide (1000000 < x.At)) = true := by simpa [or_assoc] using hr
    rw [hr'];exact Nat.le_succ _
  · have hr' : (decide (x.Op < 0) || decide (12 ≤ x.Op) || decide (x.At < 0) || decide (1000000 < x.At)) = false := by simp; omega
    rw [hr',nN]
    cases decide (x.At<A.now) with
    | true=>exact Nat.le_succ _
    | false =>
      obtain ⟨_,_,_,s4,_⟩:=Pn ho (A:=ig p { A with now:=x.At }) (x:=x) (by omega) (by omega)
      show (LP p A x (yI p (ig p { A with now:=x.At }) x)).1.done.length≤_
      by_cases h0:(yI p (ig p { A with now:=x.At }) x).2.2=0
      · rw [WR h0];show (A.done ++ [x]).length≤_;simp
      · rw [UD h0,s4];exact Nat.le_succ _
structure OM (p:GPermitPlan) (i:Nat) (A:AO) (g:af) (st:List (Str×ah)) (mP:List (Str×ai)) (pe:List (Str×Str)):Prop where
 rel:RelA p A g st mP pe
 inv:RV p A
 len:A.done.length≤i
theorem OM.bd {p:GPermitPlan} {i:Nat} {A:AO} {g:af} {st:List (Str×ah)} {mP:List (Str×ai)} {pe:List (Str×Str)} (h:OM p i A g st mP pe) (hi:i<1000000):MS A:=h.inv.w.bd (Nat.lt_of_le_of_lt h.len hi)
theorem Wu {N:Nat} {p:GPermitPlan} (hp:H8 p) (ho:uU p=0) (hN:1000000≤N):∃ st,rV N p=some (some ((⟨p,0,[]⟩:af),st,[],[]),0)∧OM p 0 (Eu p) (⟨p,0,[]⟩:af) st [] []:=by
 obtain ⟨st,h1,h2⟩:=New_eq hp ho hN
 exact ⟨st,h1,h2,jJr (okP ho),Nat.le_refl _⟩
theorem Y5 {N:Nat} {p:GPermitPlan} {i:Nat} {A:AO} {g:af} {st:List (Str×ah)} {mP:List (Str×ai)} {pe:List (Str×Str)} (hp:H8 p) (ho:H6 p) (hN:1000000≤N) (h:OM p i A g st mP pe) (hi:i<1000) (x:GEvent) :
  ∃ g' st' Ei OO,lI N g st mP pe x=some (g',st',Ei,OO,(zL p A x).2.1,(zL p A x).2.2)∧OM p (i+1) (zL p A x).1 g' st' Ei OO:=by
 have hl:=h.len
 obtain ⟨g',st',Ei,OO,h1,h2⟩:=Do_eq hp ho hN h.rel h.inv (by omega) x
 exact ⟨g',st',Ei,OO,h1,h2,(inv_do ho h.inv).1,Nat.le_trans (do_done ho) (by omega)⟩
end Go.KB
