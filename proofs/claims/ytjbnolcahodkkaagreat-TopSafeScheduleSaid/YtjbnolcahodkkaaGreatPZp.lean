/- Plain laws of chapter 7: why a permit is not opened. Plain laws of chapter 7: the people in the spaces, in the order of their names. Plain laws of chapter 7: what the program's office does. Plain laws of chapter 7: each event in the program's office. Plain laws of chapter 7: the program's office does what the office by names does. Plain laws of chapter 7: the examples. Plain laws of chapter 7: what the statements share. No condition. -/
import Derived.Test.YtjbnolcahodkkaaGreatPZn
import Derived.Test.YtjbnolcahodkkaaGreatGPure
import Derived.ProofKit
namespace Go.KB
set_option linter.unusedVariables false
def Xq {S R:Type} (Y:S→R→Option (S×Bool)):List R→S→Option S
 | [],s=>some s
 | r :: l,s=>(Y s r).bind fun v=>bif v.2 then Xq Y l v.1 else some v.1
theorem yloop {S:Type} {N:Nat} {Y:S→dG→Option (S×Bool)} {l:List dG} {s:S} (hl:l.length<1000) (hN:1000000≤N):((dh (iC N Y l) N (0,s)).bind fun TD=>Sum.elim (fun l17=>some l17) (fun r18=>some r18) TD)=Xq Y (l.filter fun r=>!r.Names.isEmpty) s:=by
 have key:∀ k i s,i+k=l.length→∀ M,k<M→((dh (iC N Y l) M ((i:Int),s)).bind fun TD=>Sum.elim (fun l17=>some l17) (fun r18=>some r18) TD)=Xq Y ((l.drop i).filter fun r=>!r.Names.isEmpty) s:=by
  intro k
  induction k with
  | zero =>
   intro i s hi M hM
   obtain ⟨M,rfl⟩:∃ m,M=m+1:=⟨M - 1,by omega⟩
   have:i=l.length:=by omega
   subst this
   have e:iC N Y l ((l.length:Int),s)=some (.inr (Sum.inl s)):=by
    unfold iC
    simp only []
    rw [bM,dF (by omega),kG]
   simp only [dh,e,List.drop_length];rfl
  | succ k ih =>
   intro i s hi M hM
   obtain ⟨M,rfl⟩:∃ m,M=m+1:=⟨M - 1,by omega⟩
   have hil:i<l.length:=by omega
   have e:iC N Y l ((i:Int),s)=bif !l[i].Names.isEmpty then (Y s l[i]).bind (fun v=>bif v.2 then some (.inl (((i+1:Nat):Int),v.1)) else some (.inr (.inr v.1))) else some (.inl (((i+1:Nat):Int),s)):=by
    unfold iC
    simp only []
    rw [bM,dT (by omega),kS,jm hil,bS,gt0,oJ (by omega)]
    cases l[i].Names.isEmpty with
    | true=>rfl
    | false =>
     simp only [Bool.not_false,kS,Bool.true_and]
     congr 1
     funext v
     cases v.2 <;> rfl
   simp only [dh,e]
   rw [drop_at hil,List.filter_cons]
   cases hn:l[i].Names.isEmpty with
   | true=>simp only [Bool.not_true,kG];exact ih (i+1) s (by omega) M (by omega)
   | false =>
    simp only [Bool.not_false,kS,if_true,Xq]
    cases hy:Y s l[i] with
    | none=>rfl
    | some v =>
     simp only [bS]
     cases hv:v.2 with
     | false=>rfl
     | true=>simp only [kS];exact ih (i+1) v.1 (by omega) M (by omega)
 simpa using key l.length 0 s (by omega) N (by omega)
theorem MS {p:ax} {A:AO} {N:Nat} {f:(List Str×Int)→Option ((List Str×Int) ⊕ List Str)} {so:aQ→Bool} (hp:NV p) (hN:1000000≤N) (hf:∀ (i:Nat) (hi:i<p.aO.length) (acc:List Str),acc.length<1000000→f (acc,(i:Int))=bif decide (stA A p.aO[i].Name=2)&&so p.aO[i] then ((app acc [p.aO[i].Name]).bind fun v=>some (.inl (v,((i+1:Nat):Int)))) else some (.inl (acc,((i+1:Nat):Int)))) (he:∀ acc,f (acc,(p.aO.length:Int))=some (.inr acc)):dh f N ([],0)=some (rC p A so):=by
 have hm:=hp.m
 have hlim:lim ≥ 10000000:=by decide
 rw [Vx (f:=f) p.aO [] (fun x=>decide (stA A x.Name=2)&&so x) (fun x=>x.Name) (fun a i=>(a,i)) (fun a=>a) (fun i hi acc hacc=>?_) he (by omega)]
 ·rfl
 ·simp only [List.length_nil] at hacc
  rw [hf i hi acc (by omega)]
  cases (decide (stA A p.aO[i].Name=2)&&so p.aO[i]) with
  | false=>rfl
  | true=>simp only [kS];rw [DW (by simp only [List.length_singleton];omega)];rfl
section
variable {N:Nat} {p:ax} {A:AO} {g:ah} {st:List (Str×ai)} {ru:List (Str×au)} {pe:List (Str×Str)} (hp:NV p) (ho:QG p) (hN:1000000≤N) (h:RelA p A g st ru pe) (b:SS A)
include hp hN h
theorem jZa {x:aQ}:jY N g st ru pe x=some (rC p A fun y=>xN p y x):=by
 have hm:=hp.m
 unfold jY
 rw [MS (f:=iP N g st ru pe x) (A:=A) (so:=fun y=>xN p y x) hp hN (fun i hi acc hacc=>?_) (fun acc=>?_)]
 ·rfl
 ·unfold iP
  simp only []
  rw [h.b.plan,bM,dT (by omega),kS,jm hi,bS,NZ hN h.st (MV hi) (by decide),bS,oJ (by omega)]
  have hc:([2]:List Int).contains (stA A p.aO[i].Name)=decide (stA A p.aO[i].Name=2):=by rw [Bool.eq_iff_iff];simp
  have hq:oG N g st ru pe p.aO[i] x=some (xN p p.aO[i] x):=by
   unfold oG
   rw [h.b.plan,Qk hp hN];rfl
  rw [hc,hq]
  cases decide (stA A p.aO[i].Name=2) with
  | false=>rfl
  | true=>rfl
 ·unfold iP
  simp only []
  rw [h.b.plan,bM,dF (by omega),kG]
end
end Go.KB
namespace Go.KB
set_option linter.unusedVariables false
theorem jJ5 (a b c:Str) (h1:a≤b) (h2:b≤c):a≤c:=List.le_trans h1 h2
theorem jJ6 (a b:Str):a≤b∨b≤a:=List.le_total a b
theorem VH (a b:Str) (h1:a≤b) (h2:b≤a):a=b:=Std.Antisymm.antisymm (r:=(· ≤ ·)) a b h1 h2
theorem slt_le {a b:Str} (h:a<b):a≤b:=List.le_of_lt h
theorem VI {l m:List Str} (hp:l.Perm m) (hs:m.Pairwise (fun a b=>a<b)):JS l=m:=by
 unfold JS
 refine List.Perm.eq_of_pairwise (le:=fun a b:Str=>a≤b) (fun a b _ _ h1 h2=>VH a b h1 h2) ?_ (hs.imp fun h=>slt_le h) ((List.mergeSort_perm _ _).trans hp)
 have:=List.pairwise_mergeSort (le:=fun x y:Str=>decide (x≤y)) (fun a b c h1 h2=>decide_eq_true (jJ5 a b c (of_decide_eq_true h1) (of_decide_eq_true h2))) (fun a b=>by
  rcases jJ6 a b with h | h <;> simp [h]) l
 exact this.imp fun h=>of_decide_eq_true h
theorem jJ7 {f:List Str→(Str×Str)→Option (List Str)} {so:Str→Bool} (π:List (Str×Str)) (hf:∀ acc q,q ∈ π→acc.length<1000000→f acc q=some (bif so q.2 then acc ++ [q.1] else acc)):∀ acc,acc.length+π.length<1000000→KI f π acc=some (acc ++ (π.filter fun q=>so q.2).map fun q=>q.1):=by
 induction π with
 | nil=>intro acc _;simp [KI]
 | cons q r ih =>
  intro acc h
  simp only [List.length_cons] at h
  unfold KI
  rw [hf acc q List.mem_cons_self (by omega),bS,ih (fun acc q hq=>hf acc q (List.mem_cons_of_mem _ hq)) _ (by cases so q.2 <;> simp <;> omega),List.filter_cons]
  cases so q.2 <;> simp
theorem SL {A : AO} {pe : List (Str × Str)} {f : List Str → (Str × Str) → Option (List Str)} {so : Str → Bool} (hpe : pe.Perm A.pp) (hpp : A.pp.Pairwise (fun a b => a.1 < b.1)) (hl : A.pp.length < 1000000) (hf : ∀ acc q, q ∈ pe → acc.length < 1000000 → f acc q = some (bif so q.2 then acc ++ [q.1] else acc)) :
    (JO pe fun q=>(KI f q []).bind fun s=>(Ur s).bind fun v=>some v)=some (D7 A so):=by
  refine ML fun π hπ=>?_
  have hp:π.Perm A.pp:=hπ.trans hpe
  have hlen:π.length=A.pp.length:=hp.length_eq
  rw [jJ7 (so:=so) π (fun acc q hq h=>hf acc q (hπ.mem_iff.1 hq) h) [] (by simp;omega),bS,List.nil_append]
  have hs:Ur ((π.filter fun q=>so q.2).map fun q=>q.1)=some (D7 A so):=by
    unfold Ur
    have h1:((π.filter fun q=>so q.2).map fun q=>q.1).length≤1000000:=by
      rw [List.length_map];have:=List.length_filter_le (fun q:Str×Str=>so q.2) π;omega
    rw [Nat.ble_eq_true_of_le h1,kS]
    congr 1
    refine VI ((hp.filter _).map _) ?_
    unfold D7
    rw [List.pairwise_map]
    exact List.Pairwise.filter _ hpp
  rw [hs];rfl
end Go.KB
namespace Go.KB
set_option linter.unusedVariables false
theorem ne0 {α:Type} {l:List α}:aC .eql (List.length l:Int) 0=l.isEmpty:=by
 rw [yX]
 cases l with
 | nil=>rfl
 | cons x r=>simp;omega
def outF (R:AO×List Str×Int) (a b:List (Str×ai)):List (Str×ai)×ay:=(bif decide (R.2.2=0) then a else b,⟨R.2.1,R.2.2⟩)
theorem Xr {A:AO} {e:Int} {l:List Str} {a b:List (Str×ai)} (he:e≠0):outF (CJ A e l) a b=(b,⟨l,e⟩):=by
 show ((bif decide (e=0) then a else b),(⟨l,e⟩:ay))=_
 rw [dF he];rfl
theorem Y9 {l:List dG} {g:ay→dG→Option (ay×Option Nat)} (hg:∀ s r,g s r=some (⟨r.Names,r.Err⟩,some 0)):Xq (yl g 1) l ((⟨[],0⟩:ay),none)=some (match l with | []=>(⟨[],0⟩,none) | r :: _=>(⟨r.Names,r.Err⟩,some 0)):=by
 cases l with
 | nil=>rfl
 | cons r l =>
  unfold Xq yl
  simp only [hg]
  rfl
theorem ZR {p:ax} {A:AO} {x:aQ}:∀ r ∈ QI p A x,r.Err≠0:=by
 intro r hr
 unfold QI at hr
 rcases List.mem_append.1 hr with hr | hr
 ·cases hd:decide (A.now<x.From) with
  | false=>rw [hd] at hr;cases hr
  | true=>rw [hd,kS,List.mem_singleton] at hr;subst hr;decide
 ·have hr:=(List.mem_filter.1 hr).1
  rcases List.mem_append.1 hr with hr | hr
  ·simp only [List.mem_cons,List.not_mem_nil,or_false] at hr
   rcases hr with rfl | rfl | rfl <;> simp
  ·cases hd:decide (x.Kind=3) with
   | false=>rw [hd] at hr;cases hr
   | true=>rw [hd,kS,List.mem_singleton] at hr;subst hr;simp
section
variable {N:Nat} {p:ax} {A:AO} {g:ah} {st:List (Str×ai)} {ru:List (Str×au)} {pe:List (Str×Str)} (hp:NV p) (ho:QG p) (hN:1000000≤N) (h:RelA p A g st ru pe) (b:SS A) (hpp:A.pp.Pairwise (fun a b=>a.1<b.1))
include hp hN h
theorem Q5 {φ:aQ→Option Bool} {so:aQ→Bool} (hφ:∀ y ∈ p.aO,φ y=some (so y)):jG N g st ru pe φ=some (rC p A so):=by
 have hm:=hp.m
 unfold jG
 rw [MS (f:=oK N g st ru pe φ) (A:=A) (so:=so) hp hN (fun i hi acc hacc=>?_) (fun acc=>?_)]
 ·rfl
 ·unfold oK
  simp only []
  rw [h.b.plan,bM,dT (by omega),kS,jm hi,bS,NZ hN h.st (MV hi) (by decide),bS,oJ (by omega)]
  have hc:([2]:List Int).contains (stA A p.aO[i].Name)=decide (stA A p.aO[i].Name=2):=by rw [Bool.eq_iff_iff];simp
  rw [hc,hφ _ (List.getElem_mem hi)]
  cases decide (stA A p.aO[i].Name=2) <;> rfl
 ·unfold oK
  simp only []
  rw [h.b.plan,bM,dF (by omega),kG]
theorem jJ8 {s:Str}:rZ N g st ru pe s=some (FT p A s):=by
 unfold rZ FT
 rw [Q5 hp hN h (so:=fun y=>decide (y.Kind=1)&&decide (y.Space=s)) (fun y _=>by unfold jv;rw [yX,rD]),bS,gt0]
include b hpp
omit hp hN in
theorem Za {φ:Str→Option Bool} {so:Str→Bool} (hφ:∀ s,φ s=some (so s)):mV N g st ru pe φ=some (D7 A so):=by
 have hlim:lim ≥ 10000000:=by decide
 unfold mV
 refine SL (f:=oZ N φ) h.pe hpp b.pl fun acc q _ hacc=>?_
 unfold oZ
 rw [hφ,bS]
 cases so q.2 with
 | false=>rfl
 | true=>rw [kS,kS,DW (by simp only [List.length_singleton];omega)];rfl
theorem Xt {x:aQ}:jI N g st ru pe x=some (D7 A fun s=>decide (rQ p s x.Space≤1)):=by
 have hlim:lim ≥ 10000000:=by decide
 unfold jI
 refine SL (f:=je N g st ru x) (so:=fun s=>decide (rQ p s x.Space≤1)) h.pe hpp b.pl fun acc q _ hacc=>?_
 unfold je qf
 rw [h.b.plan,OU hp hN,bS,bS,yA]
 cases decide (rQ p q.2 x.Space≤1) with
 | false=>rfl
 | true=>rw [kS,kS,DW (by simp only [List.length_singleton];omega)];rfl
include ho
theorem Zb {S:Type} {Y:S→dG→Option (S×Bool)} {y0:S} {x:aQ} (hx:x ∈ p.aO):lX N Y y0 g st ru pe x=Xq Y (QI p A x) y0:=by
 have hlim:lim ≥ 10000000:=by decide
 unfold lX QI
 rw [bM,h.b.now,Ql hp hN h.st (hp.l _ hx) (fun l hl=>(ho.lk _ hx l hl).1),jZa hp hN h,SV hp hN h.b b,Xt hp hN h b hpp,yX]
 simp only [bS]
 have hl:((bif decide (x.Kind=3) then ((app [(⟨18,NW A x⟩:dG),(⟨20,rC p A fun y=>xN p y x⟩:dG),(⟨21,Kt p A x⟩:dG)] [(⟨17,D7 A fun s=>decide (rQ p s x.Space≤1)⟩:dG)]).bind fun v6=>some v6) else (some [(⟨18,NW A x⟩:dG),(⟨20,rC p A fun y=>xN p y x⟩:dG),(⟨21,Kt p A x⟩:dG)])):Option (List dG))=some ([(⟨18,NW A x⟩:dG),(⟨20,rC p A (fun y=>xN p y x)⟩:dG),(⟨21,Kt p A x⟩:dG)] ++ (bif decide (x.Kind=3) then [(⟨17,D7 A (fun s=>decide (rQ p s x.Space≤1))⟩:dG)] else [])):=by
  cases decide (x.Kind=3) with
  | false=>rfl
  | true=>rw [kS,DW (by simp only [List.length_cons,List.length_nil];omega)];rfl
 rw [hl]
 simp only [bS]
 have hlen:([(⟨18,NW A x⟩:dG),(⟨20,rC p A (fun y=>xN p y x)⟩:dG),(⟨21,Kt p A x⟩:dG)] ++ (bif decide (x.Kind=3) then [(⟨17,D7 A (fun s=>decide (rQ p s x.Space≤1))⟩:dG)] else [])).length<1000:=by
  cases decide (x.Kind=3) <;> simp
 simp only [yloop hlen hN]
 cases hd:decide (A.now<x.From) with
 | false=>simp only [kG,bS,Bool.false_and,List.nil_append]
 | true =>
  simp only [kS,Bool.true_and,List.singleton_append,Xq]
  congr 1
  funext v
  cases v.2 <;> rfl
theorem jZe {x:cu} (hh:pF p x.Name=true):qm N g st ru pe x=some (outF (IE p A x) (tX st x.Name { A.es x.Name with state:=2 }) st):=by
 have hm:=hp.m
 unfold qm IE
 rw [GX (by omega),bS,rD,h.st.get _ hh]
 cases lD x.Person with
 | false=>rfl
 | true =>
  cases decide (x.Person=(A.es x.Name).N9) with
  | true=>rfl
  | false =>
   simp only [Bool.not_true,kG]
   rw [h.b.plan,EN (by omega) hN,bS]
   unfold uI
   rw [bS]
   show ((lX N (yl (jV N) 1) ((⟨[],0⟩:ay),none) g st ru pe (xK p x.Name)).bind _)=_
   rw [Zb hp ho hN h b hpp (CB hh).1,Y9 (g:=jV N) (fun s r=>rfl),bS]
   have hw:=ZR (p:=p) (A:=A) (x:=xK p x.Name)
   cases hwy:QI p A (xK p x.Name) with
   | nil =>
    simp only [O9]
    unfold fK
    rw [h.st.get _ hh];rfl
   | cons r l =>
    have h0:r.Err≠0:=hw r (by rw [hwy];exact List.mem_cons_self)
    show (bif decide True then some (st,(⟨r.Names,r.Err⟩:ay)) else none)=some (outF (CJ A r.Err r.Names) _ st)
    rw [Xr h0];rfl
omit ho in
theorem jJ9 {x:cu} (hh:pF p x.Name=true):pI N g st ru pe x=some (outF (MW p A x) (tX st x.Name { A.es x.Name with state:=4 }) st):=by
  have hm:=hp.m
  have hs:=hp.s
  obtain ⟨hy,hyn⟩:=CB hh
  have hb:fK N g st ru pe x.Name 4=some (tX st x.Name { A.es x.Name with state:=4 }):=by
    unfold fK;rw [h.st.get _ hh]
  unfold pI MW
  rw [h.b.plan,EN (by omega) hN,bS]
  show ((jX N p (xK p x.Name).Space).bind fun v2=>_)=_
  rw [Dc (by omega) hN,bS]
  simp only []
  have e1:jG N g st ru pe (fun y0=>kN N y0 (xK p x.Name))=some (rC p A (fun z=>BV z.Locks (xK p x.Name).Name)):=Q5 hp hN h fun y hy=>by
    unfold kN;rw [CG (Nat.lt_trans (hp.l y hy) (by decide)) hN];rfl
  have e2:jG N g st ru pe (fun y0=>kP N y0 (xK p x.Name))=some (rC p A (fun z=>decide (z.Kind=1)&&decide (z.Space=(xK p x.Name).Space) && !decide (z.Name=(xK p x.Name).Name))):=Q5 hp hN h fun y hy=>by
    unfold kP;rw [yX,rD,OT]
  have e3:mV N g st ru pe (fun y0=>kQ N y0 (xK p x.Name))=some (D7 A (fun s=>decide (s=(xK p x.Name).Space))):=Za h b hpp fun s=>by
    unfold kQ;rw [rD]
  have e4:fZ N g st ru pe (xK p x.Name).Name [2]=some (decide (stA A (xK p x.Name).Name=2)):=by
    rw [NZ hN h.st (by rw [hyn];exact hh) (by decide)]
    congr 1;rw [Bool.eq_iff_iff];simp
  show (((bif aC .eql (xK p x.Name).Kind 5 then ((jG N g st ru pe (fun y0=>kN N y0 (xK p x.Name))).bind fun v3=>bif (aC .gtr (List.length v3:Int) 0) then ((kU N 20 v3).bind fun v4=>some (Sum.inr v4)) else (some (Sum.inl (⟨[],0⟩:ay)))) else ((bif aC .eql (xK p x.Name).Kind 1 then (fZ N g st ru pe (xK p x.Name).Name [2]) else some false).bind fun v6=>bif ((aC .eql (xK p x.Name).Kind 1&&v6)&&(Dj p (xK p x.Name).Space).fU) then ((jG N g st ru pe (fun y0=>kP N y0 (xK p x.Name))).bind fun v7=>(mV N g st ru pe (fun y0=>kQ N y0 (xK p x.Name))).bind fun v8=>bif (aC .eql (List.length v7:Int) 0&&aC .gtr (List.length v8:Int) 0) then ((kU N 21 v8).bind fun v9=>some (Sum.inr v9)) else (some (Sum.inl (⟨[],0⟩:ay)))) else (some (Sum.inl (⟨[],0⟩:ay))))):Option (ay ⊕ ay)).bind fun X6=>Sum.elim (fun l15=>(fK N g st ru pe x.Name 4).bind fun v17=>some (v17,(⟨[],0⟩:ay))) (fun r16=>some (st,r16)) X6)=_
  rw [e1,e2,e3,e4,hb]
  simp only [bS,gt0,ne0]
  simp only [yX]
  unfold kU
  by_cases h5:(xK p x.Name).Kind=5
  · rw [dT h5, dF (show ¬ (xK p x.Name).Kind = 1 by omega)]
    simp only [kS,Bool.true_and,Bool.false_and,kG]
    cases (rC p A (fun z=>BV z.Locks (xK p x.Name).Name)).isEmpty <;> rfl
  · rw [dF h5]
    simp only [kG,Bool.false_and]
    cases decide ((xK p x.Name).Kind=1) with
    | false=>rfl
    | true =>
      simp only [kS,Bool.true_and,bS]
      cases decide (stA A (xK p x.Name).Name=2) with
      | false=>rfl
      | true =>
        cases (Dj p (xK p x.Name).Space).fU with
        | false=>rfl
        | true =>
          simp only [Bool.true_and,kS]
          cases (rC p A (fun z=>decide (z.Kind=1)&&decide (z.Space=(xK p x.Name).Space) && !decide (z.Name=(xK p x.Name).Name))).isEmpty with
          | false=>rfl
          | true=>cases (D7 A (fun s=>decide (s=(xK p x.Name).Space))).isEmpty <;> rfl
end
end Go.KB
namespace Go.KB
set_option linter.unusedVariables false
theorem Xu {α β:Type} [DecidableEq α] {k:α} {y:β}:∀ {m:List (α×β)},qM m k=false→tX m k y=m ++ [(k,y)]
 | [],_=>rfl
 | q :: r,h=>by
  unfold qM at h
  rw [Bool.or_eq_false_iff] at h
  unfold tX
  rw [h.1,kG,Xu h.2];rfl
theorem Xv {β : Type} {k : Str} : ∀ {m : List (Str × β)}, qM m k = m.any fun q => decide (q.1 = k)
  | []=>rfl
  | q :: r=>by
    unfold qM
    rw [List.any_cons,Xv,show decide (k=q.1)=decide (q.1=k) from decide_eq_decide.2 ⟨Eq.symm,Eq.symm⟩]
theorem jZ0 {α:Type} {l m:List α} {f:α→Bool} (h:l.Perm m):l.any f=m.any f:=by
 rw [Bool.eq_iff_iff,List.any_eq_true,List.any_eq_true]
 exact ⟨fun ⟨x,a,b⟩=>⟨x,h.mem_iff.1 a,b⟩,fun ⟨x,a,b⟩=>⟨x,h.mem_iff.2 a,b⟩⟩
theorem Xw {n s:Str}:∀ {l:List (Str×Str)},(PN l n s).Perm ((n,s) :: l)
 | []=>List.Perm.refl _
 | q :: r=>by
  unfold PN
  cases decide (q.1<n) with
  | false=>exact List.Perm.refl _
  | true=>exact (Xw.cons q).trans (List.Perm.swap _ _ _)
theorem Qm {β : Type} {k : Str} : ∀ {m : List (Str × β)}, (m.map fun q => q.1).Nodup → KQ m k = m.filter fun q => !decide (q.1 = k)
  | [],_=>rfl
  | q :: r,h=>by
    rw [List.map_cons,List.nodup_cons] at h
    unfold KQ
    rw [List.filter_cons]
    by_cases hk:k=q.1
    · rw [dT hk,dT hk.symm,kS]
      simp only [Bool.not_true,Bool.false_eq_true,if_false]
      refine (List.filter_eq_self.2 fun a ha=>?_).symm
      rw [Bool.not_eq_true',decide_eq_false_iff_not]
      intro he
      exact h.1 (List.mem_map.2 ⟨a,ha,he.trans hk⟩)
    · rw [dF hk,dF (fun e=>hk e.symm),kG,Qm h.2];rfl
theorem jZ1 {l:List (Str×Str)} (h:l.Pairwise (fun a b=>a.1<b.1)):(l.map fun q=>q.1).Nodup:=by
 unfold List.Nodup
 rw [List.pairwise_map]
 exact h.imp fun {a b} hab he=>by
  have hab':a.1<b.1:=hab
  rw [he] at hab'
  exact List.lt_irrefl _ hab'
theorem LW {N:Nat} {p:ax} {s:Str} (hp:NV p) (hN:1000000≤N):jX N p s=some (Dj p s,DX p s):=by
 have:=hp.s
 rw [Dc (by omega) hN]
 exact congrArg some (Prod.ext rfl Jm)
theorem VJ {N:Nat} {p:ax} {s:Str} (hp:NV p) (hN:1000000≤N):oh N p s=some (xK p s,pF p s):=by
 have:=hp.m
 rw [EN (by omega) hN]
 exact congrArg some (Prod.ext rfl Jm)
structure QJ (p:ax) (g:ah) (R:AO×List Str×Int) (o:List (Str×ai)×List (Str×au)×List (Str×Str)×ay):Prop where
 rel:RelA p R.1 g o.1 o.2.1 o.2.2.1
 ref:o.2.2.2=⟨R.2.1,R.2.2⟩
theorem RelA.up {p:ax} {A:AO} {g:ah} {st:List (Str×ai)} {ru:List (Str×au)} {pe:List (Str×Str)} (h:RelA p A g st ru pe) {n:Str} (hn:pF p n=true) (e:ai):RelA p (ZP A n e) g (tX st n e) ru pe :=
 ⟨⟨h.b.plan,h.b.now,h.b.SX,h.b.SY⟩,h.st.set hn e,h.pe,h.done⟩
section
variable {N:Nat} {p:ax} {A:AO} {g:ah} {st:List (Str×ai)} {ru:List (Str×au)} {pe:List (Str×Str)} (hp:NV p) (ho:QG p) (hN:1000000≤N) (h:RelA p A g st ru pe) (b:SS A) (hpp:A.pp.Pairwise (fun a b=>a.1<b.1))
theorem BL (h:RelA p A g st ru pe) {e:Int} {l:List Str}:QJ p g (CJ A e l) (st,ru,pe,⟨l,e⟩):=⟨h,rfl⟩
include hN h
theorem Xx {x:cu} (hh:pF p x.Name=true):∃ o,((rf N g st ru pe x).bind fun y=>some (y.1,ru,pe,y.2))=some o∧QJ p g (Jj A x) o:=by
 unfold rf Jj
 rw [GX (by omega),bS,h.st.get _ hh]
 cases lD x.Person with
 | false=>exact ⟨_,rfl,BL h⟩
 | true=>exact ⟨_,rfl,h.up hh _,rfl⟩
theorem Zc {x:cu} (hh:pF p x.Name=true):∃ o,((rY N g st ru pe x).bind fun y=>some (y.1,ru,pe,y.2))=some o∧QJ p g (Q7 A x) o:=by
 unfold rY Q7
 rw [GX (by omega),bS,h.st.get _ hh,yA,rP]
 cases lD x.Person with
 | false=>exact ⟨_,rfl,BL h⟩
 | true =>
  cases (decide (x.To≤(A.es x.Name).Es)||decide (1000000<x.To)) with
  | true=>exact ⟨_,rfl,BL h⟩
  | false=>exact ⟨_,rfl,h.up hh _,rfl⟩
omit hN in
theorem S9 {x:cu} {k:Int} (hh:pF p x.Name=true):∃ o,(((fK N g st ru pe x.Name k).bind fun v1=>some (v1,(⟨[],0⟩:ay))).bind fun y=>some (y.1,ru,pe,y.2))=some o∧QJ p g (Ji (beA A x.Name k)) o:=by
 unfold fK
 rw [h.st.get _ hh]
 exact ⟨_,rfl,h.up hh _,rfl⟩
include hp b hpp ho
theorem UB {x:cu} (hh:pF p x.Name=true):∃ o,((qm N g st ru pe x).bind fun y=>some (y.1,ru,pe,y.2))=some o∧QJ p g (IE p A x) o:=by
 rw [jZe hp ho hN h b hpp hh]
 refine ⟨_,rfl,?_,rfl⟩
 simp only []
 unfold IE
 cases lD x.Person with
 | false=>exact h
 | true =>
  cases decide (x.Person=(A.es x.Name).N9) with
  | true=>exact h
  | false =>
   simp only [Bool.not_true,kG]
   have hw:=ZR (p:=p) (A:=A) (x:=xK p x.Name)
   cases hwy:QI p A (xK p x.Name) with
   | nil=>exact h.up hh _
   | cons r l =>
    have h0:r.Err≠0:=hw r (by rw [hwy];exact List.mem_cons_self)
    show RelA p A g (outF (CJ A r.Err r.Names) _ st).1 ru pe
    rw [Xr h0];exact h
omit ho in
theorem Zd {x:cu} (hh:pF p x.Name=true):∃ o,((pI N g st ru pe x).bind fun y=>some (y.1,ru,pe,y.2))=some o∧QJ p g (MW p A x) o:=by
 rw [jJ9 hp hN h b hpp hh]
 refine ⟨_,rfl,?_,rfl⟩
 simp only []
 unfold MW
 simp only []
 cases (decide ((xK p x.Name).Kind=5) && !(rC p A (fun z=>BV z.Locks (xK p x.Name).Name)).isEmpty) with
 | true=>exact h
 | false =>
  rw [kG]
  cases (decide ((xK p x.Name).Kind=1)&&decide (stA A (xK p x.Name).Name=2)&&(Dj p (xK p x.Name).Space).fU&&(rC p A (fun z=>decide (z.Kind=1)&&decide (z.Space=(xK p x.Name).Space) && !decide (z.Name=(xK p x.Name).Name))).isEmpty && !(D7 A (fun s=>decide (s=(xK p x.Name).Space))).isEmpty) with
  | true=>exact h
  | false=>exact h.up hh _
omit ho hpp b
theorem jWl {x:cu}:∃ o,((uQ N g st ru pe x).bind fun y=>some (st,y.1,pe,y.2))=some o∧QJ p g (gasA p A x) o:=by
 have hs:=hp.s
 unfold uQ gasA
 rw [h.b.plan,LW hp hN,bS]
 simp only [bM,rP]
 cases DX p x.Space with
 | false=>exact ⟨_,rfl,BL h⟩
 | true =>
  simp only [Bool.not_true,kG]
  cases (decide (x.Bo<0)||decide (1000<x.Bo)||decide (x.V7<0)||decide (1000<x.V7)) with
  | true=>exact ⟨_,rfl,BL h⟩
  | false =>
   refine ⟨_,rfl,⟨⟨h.b.plan,h.b.now,fun s=>?_,fun s t e=>?_⟩,h.st,h.pe,h.done⟩,rfl⟩
   ·simp only [kG,Ji]
    rw [MX,h.b.SX]
    cases decide (s=x.Space) <;> rfl
   ·simp only [kG,Ji] at e ⊢
    rw [Jo]
    by_cases he:s=x.Space
    ·rw [dT he] at e;cases e;rw [if_pos he,h.b.now]
    ·rw [dF he] at e;rw [if_neg he];exact h.b.SY s t e
theorem jZ2 {s:Str}:lg N g st ru pe (Dj p s)=some (rC p A (fun y=>decide (y.Kind=3)&&decide (rQ p y.Space (Dj p s).Name≤1))):=by
 have hm:=hp.m
 unfold lg
 rw [MS (f:=jk N g st ru pe (Dj p s)) (A:=A) (so:=fun y=>decide (y.Kind=3)&&decide (rQ p y.Space (Dj p s).Name≤1)) hp hN (fun i hi acc hacc=>?_) (fun acc=>?_)]
 ·rfl
 ·unfold jk
  simp only []
  rw [h.b.plan,bM,dT (by omega),kS,jm hi,bS,NZ hN h.st (MV hi) (by decide),bS,oJ (by omega)]
  have hc:([2]:List Int).contains (stA A p.aO[i].Name)=decide (stA A p.aO[i].Name=2):=by rw [Bool.eq_iff_iff];simp
  have hq:rq N g st ru pe p.aO[i] (Dj p s)=some (decide (p.aO[i].Kind=3)&&decide (rQ p p.aO[i].Space (Dj p s).Name≤1)):=by
   unfold rq
   rw [h.b.plan,OU hp hN,yX]
   cases decide (p.aO[i].Kind=3) with
   | false=>rfl
   | true=>simp only [kS,bS,Bool.true_and,yA]
  rw [hc,hq]
  cases decide (stA A p.aO[i].Name=2) <;> rfl
 ·unfold jk
  simp only []
  rw [h.b.plan,bM,dF (by omega),kG]
theorem jZ3 {x:cu}:kZ N g st ru pe x=some (rC p A (fun y=>!decide (y.Kind=5)&&decide (rQ p y.Space x.Space≤1))):=by
 have hm:=hp.m
 unfold kZ
 rw [MS (f:=ji N g st ru pe x) (A:=A) (so:=fun y=>!decide (y.Kind=5)&&decide (rQ p y.Space x.Space≤1)) hp hN (fun i hi acc hacc=>?_) (fun acc=>?_)]
 ·rfl
 ·unfold ji
  simp only []
  rw [h.b.plan,bM,dT (by omega),kS,jm hi,bS,NZ hN h.st (MV hi) (by decide),bS,oJ (by omega)]
  have hc:([2]:List Int).contains (stA A p.aO[i].Name)=decide (stA A p.aO[i].Name=2):=by rw [Bool.eq_iff_iff];simp
  have hq:qX N g st ru pe p.aO[i] x=some (!decide (p.aO[i].Kind=5)&&decide (rQ p p.aO[i].Space x.Space≤1)):=by
   unfold qX
   rw [h.b.plan,OU hp hN,wP]
   cases (!decide (p.aO[i].Kind=5)) with
   | false=>rfl
   | true=>simp only [kS,bS,Bool.true_and,yA]
  rw [hc,hq]
  cases decide (stA A p.aO[i].Name=2) <;> rfl
 ·unfold ji
  simp only []
  rw [h.b.plan,bM,dF (by omega),kG]
omit hp hN in
theorem PO {n:Str}:qM pe n=JX A n:=by
 rw [Xv,jZ0 h.pe];rfl
theorem jQj {x:cu}:∃ o,((sV N g st ru pe x).bind fun y=>some (st,ru,y.1,y.2))=some o∧QJ p g (VK p A x) o:=by
 have hs:=hp.s
 unfold sV VK
 rw [GX (by omega),bS,h.b.plan]
 cases lD x.Person with
 | false=>exact ⟨_,rfl,BL h⟩
 | true =>
  simp only [Bool.not_true,kG]
  rw [LW hp hN,bS]
  simp only []
  cases hh:DX p x.Space with
  | false=>exact ⟨_,rfl,BL h⟩
  | true =>
   have hnm:=(SK hh).2
   simp only [Bool.not_true,kG]
   rw [jJ8 hp hN h,jZ2 hp hN h,PO h,hnm]
   cases hi:JX A x.Person with
   | true=>exact ⟨_,rfl,BL h⟩
   | false =>
    simp only [kG]
    have hx:((bif (Dj p x.Space).fU then (some (FT p A x.Space)) else some false).bind fun v6=>(some (((Dj p x.Space).fU&&(!v6))):Option Bool))=some ((Dj p x.Space).fU && !FT p A x.Space):=by
     cases (Dj p x.Space).fU <;> rfl
    have hx2:∀ (F:Bool→Option (List (Str×Str)×ay)),((bif (Dj p x.Space).fU then (some (FT p A x.Space)) else some false).bind fun v6=>F ((Dj p x.Space).fU&&(!v6)))=F ((Dj p x.Space).fU && !FT p A x.Space):=by
     intro F;cases (Dj p x.Space).fU <;> rfl
    rw [hx2 (fun c=>bif c then _ else _)]
    cases ((Dj p x.Space).fU && !FT p A x.Space) with
    | true=>exact ⟨_,rfl,BL h⟩
    | false =>
     simp only [kG,bS,gt0]
     cases (!(rC p A (fun y=>decide (y.Kind=3)&&decide (rQ p y.Space x.Space≤1))).isEmpty) with
     | true=>exact ⟨_,rfl,BL h⟩
     | false =>
      refine ⟨_,rfl,⟨⟨h.b.plan,h.b.now,h.b.SX,h.b.SY⟩,h.st,?_,h.done⟩,rfl⟩
      show (tX pe x.Person x.Space).Perm (PN A.pp x.Person x.Space)
      rw [Xu (by rw [PO h];exact hi)]
      exact (List.perm_append_singleton _ _).trans ((h.pe.cons _).trans Xw.symm)
include hpp
omit hp in
theorem jQq {x:cu}:∃ o,((sZ N g st ru pe x).bind fun y=>some (st,ru,y.1,y.2))=some o∧QJ p g (VL A x) o:=by
 unfold sZ VL
 rw [GX (by omega),bS,PO h]
 cases lD x.Person with
 | false=>exact ⟨_,rfl,BL h⟩
 | true =>
  cases JX A x.Person with
  | false=>exact ⟨_,rfl,BL h⟩
  | true =>
   refine ⟨_,rfl,⟨⟨h.b.plan,h.b.now,h.b.SX,h.b.SY⟩,h.st,?_,h.done⟩,rfl⟩
   show (KQ pe x.Person).Perm (A.pp.filter fun q=>!decide (q.1=x.Person))
   rw [Qm]
   ·exact h.pe.filter _
   ·exact ((h.pe.map _).nodup_iff).2 (jZ1 hpp)
omit hpp
include ho
theorem jQx {x:cu}:∃ o,((tq N g st ru pe x).bind fun y=>some (y.1,ru,pe,y.2))=some o∧QJ p g (VN p A x) o:=by
 have hs:=hp.s
 have hm:=hp.m
 unfold tq VN
 rw [h.b.plan,LW hp hN,bS]
 simp only []
 cases DX p x.Space with
 | false=>exact ⟨_,rfl,BL h⟩
 | true =>
  simp only [Bool.not_true,kG]
  rw [jZ3 hp hN h,bS]
  have hmem:∀ s ∈ rC p A (fun y=>!decide (y.Kind=5)&&decide (rQ p y.Space x.Space≤1)),pF p s=true:=by
   intro s hs
   unfold rC at hs
   obtain ⟨y,hy,rfl⟩:=List.mem_map.1 hs
   exact DU.2 ⟨y,(List.mem_filter.1 hy).1,rfl⟩
  have hlen:(rC p A (fun y=>!decide (y.Kind=5)&&decide (rQ p y.Space x.Space≤1))).length≤p.aO.length:=by
   unfold rC;rw [List.length_map];exact List.length_filter_le _ _
  have hin:∀ s,pF p s=true→BV (rC p A (fun y=>!decide (y.Kind=5)&&decide (rQ p y.Space x.Space≤1))) s=(pF p s&&decide (stA A s=2)&&(!decide ((xK p s).Kind=5)&&decide (rQ p (xK p s).Space x.Space≤1))):=by
   intro s hs
   rw [hs,Bool.true_and,Bool.eq_iff_iff,QY]
   unfold rC
   rw [List.mem_map]
   constructor
   ·rintro ⟨y,hy,rfl⟩
    obtain ⟨hy1,hy2⟩:=List.mem_filter.1 hy
    rw [ho.NY hy1];exact hy2
   ·intro hb
    obtain ⟨h1,h2⟩:=CB hs
    refine ⟨xK p s,List.mem_filter.2 ⟨h1,?_⟩,h2⟩
    rw [h2];exact hb
  generalize rC p A (fun y=>!decide (y.Kind=5)&&decide (rQ p y.Space x.Space≤1))=L at hmem hlen hin
  have key:∃ st',dh (lY N g ru pe L) N (0,st)=some st'∧Tc p (fun n=>bif BV L n then ({ A.es n with state:=3 }:ai) else A.es n) st':=by
   refine OV (N:=N) (n:=L.length) (f:=lY N g ru pe L) (s0:=(0,st)) (fun i s=>s.1=(i:Int)∧Tc p (fun n=>bif BV (L.take i) n then ({ A.es n with state:=3 }:ai) else A.es n) s.2) (fun st'=>Tc p (fun n=>bif BV L n then ({ A.es n with state:=3 }:ai) else A.es n) st') ⟨rfl,h.st.congr fun s _=>by unfold BV;simp⟩ (fun i s hi hs=>?_) (fun s hs=>?_) (by omega)
   ·obtain ⟨s1,st'⟩:=s
    obtain ⟨rfl,hr⟩:=hs
    simp only [] at hr
    have hn:=hmem _ (List.getElem_mem hi)
    refine ⟨_,by unfold lY fK;simp only [];rw [bM,dT (by omega),kS,jm hi,bS,bS,oJ (by omega)],rfl,?_⟩
    refine (hr.set hn _).congr fun s hs=>?_
    simp only []
    rw [hr.get _ hn]
    have htk:BV (L.take (i+1)) s=(BV (L.take i) s||decide (s=L[i])):=by
     unfold BV;rw [List.take_succ_eq_append_getElem hi,List.any_append];simp
    rw [htk]
    by_cases he:s=L[i]
    ·subst he
     rw [dT rfl,Bool.or_true,kS,kS]
     cases BV (L.take i) L[i] <;> rfl
    ·rw [dF he,Bool.or_false];rfl
   ·obtain ⟨s1,st'⟩:=s
    obtain ⟨rfl,hr⟩:=hs
    refine ⟨st',?_,?_⟩
    ·unfold lY
     simp only []
     rw [bM,dF (by omega),kG]
    ·rw [List.take_length] at hr;exact hr
  obtain ⟨st',h1,h2⟩:=key
  rw [h1]
  refine ⟨_,rfl,⟨⟨h.b.plan,h.b.now,h.b.SX,h.b.SY⟩,h2.congr fun s hs=>?_,h.pe,h.done⟩,rfl⟩
  show _=(bif pF p s&&decide (stA A s=2)&&(!decide ((xK p s).Kind=5)&&decide (rQ p (xK p s).Space x.Space≤1)) then ({ A.es s with state:=3 }:ai) else A.es s)
  rw [hin s hs]
end
end Go.KB
namespace Go.KB
set_option linter.unusedVariables false
instance:Inhabited bV:=⟨⟨[],[],[],none⟩⟩
def VO:List bV:=(zM 0).getD []
theorem jZ4 {N:Nat}:zM N=some VO:=rfl
def BG (op:Int):bV:=VO[op.toNat]!
theorem Td {op:Int} (h0:0≤op) (h12:op<12):op=0∨op=1∨op=2∨op=3∨op=4∨op=5∨op=6∨op=7∨op=8∨op=9∨op=10∨op=11:=by omega
theorem jZ5 {op:Int} (h0:0≤op) (h12:op<12):idx VO op=some (BG op):=by
 rcases Td h0 h12 with h | h | h | h | h | h | h | h | h | h | h | h <;> subst h <;> rfl
theorem Xy {op:Int} (h0:0≤op) (h12:op<12):(BG op).states=(FP op).getD []:=by
 rcases Td h0 h12 with h | h | h | h | h | h | h | h | h | h | h | h <;> subst h <;> rfl
theorem jQz {op:Int} {l:List Int} (h:FP op=some l):l.isEmpty=false∧l.length<100:=by
 unfold FP at h
 repeat' split at h
 all_goals first | (cases h;exact ⟨rfl,by decide⟩) | cases h
section
variable {N:Nat} {p:ax} {A:AO} {g:ah} {st:List (Str×ai)} {ru:List (Str×au)} {pe:List (Str×Str)} (hp:NV p) (ho:QG p) (hN:1000000≤N) (h:RelA p A g st ru pe) (b:SS A) (hpp:A.pp.Pairwise (fun a b=>a.1<b.1))
include hp hN h b hpp ho
theorem jZ6 {x:cu} (h0:0≤x.Op) (h12:x.Op<12) (hh:FP x.Op≠none→pF p x.Name=true):∃ o,Jp N g st ru pe (BG x.Op).TT x=some o∧QJ p g (Xz p A x) o:=by
  unfold Jp Xz
  rcases Td h0 h12 with e | e | e | e | e | e | e | e | e | e | e | e
  · have hd : (BG x.Op).TT = some 52 := by rw [e]; rfl
    rw [hd];simp only [e,Option.some.injEq,Nat.reduceEqDiff,decide_false,decide_true,kG,kS,if_false,Int.reduceEq]
    exact ⟨_,rfl,h,rfl⟩
  · have hd : (BG x.Op).TT = some 53 := by rw [e]; rfl
    have hx:=hh (by rw [e];decide)
    rw [hd];simp only [e,Option.some.injEq,Nat.reduceEqDiff,decide_false,decide_true,kG,kS,if_false,Int.reduceEq]
    exact Xx hN h hx
  · have hd : (BG x.Op).TT = some 54 := by rw [e]; rfl
    have hx:=hh (by rw [e];decide)
    rw [hd];simp only [e,Option.some.injEq,Nat.reduceEqDiff,decide_false,decide_true,kG,kS,if_false,Int.reduceEq]
    exact UB hp ho hN h b hpp hx
  · have hd : (BG x.Op).TT = some 55 := by rw [e]; rfl
    have hx:=hh (by rw [e];decide)
    rw [hd];simp only [e,Option.some.injEq,Nat.reduceEqDiff,decide_false,decide_true,kG,kS,if_false,Int.reduceEq]
    exact S9 h hx
  · have hd : (BG x.Op).TT = some 54 := by rw [e]; rfl
    have hx:=hh (by rw [e];decide)
    rw [hd];simp only [e,Option.some.injEq,Nat.reduceEqDiff,decide_false,decide_true,kG,kS,if_false,Int.reduceEq]
    exact UB hp ho hN h b hpp hx
  · have hd : (BG x.Op).TT = some 56 := by rw [e]; rfl
    have hx:=hh (by rw [e];decide)
    rw [hd];simp only [e,Option.some.injEq,Nat.reduceEqDiff,decide_false,decide_true,kG,kS,if_false,Int.reduceEq]
    exact Zd hp hN h b hpp hx
  · have hd : (BG x.Op).TT = some 57 := by rw [e]; rfl
    have hx:=hh (by rw [e];decide)
    rw [hd];simp only [e,Option.some.injEq,Nat.reduceEqDiff,decide_false,decide_true,kG,kS,if_false,Int.reduceEq]
    exact S9 h hx
  · have hd : (BG x.Op).TT = some 58 := by rw [e]; rfl
    rw [hd];simp only [e,Option.some.injEq,Nat.reduceEqDiff,decide_false,decide_true,kG,kS,if_false,Int.reduceEq]
    exact jWl hp hN h
  · have hd : (BG x.Op).TT = some 59 := by rw [e]; rfl
    rw [hd];simp only [e,Option.some.injEq,Nat.reduceEqDiff,decide_false,decide_true,kG,kS,if_false,Int.reduceEq]
    exact jQj hp hN h
  · have hd : (BG x.Op).TT = some 60 := by rw [e]; rfl
    rw [hd];simp only [e,Option.some.injEq,Nat.reduceEqDiff,decide_false,decide_true,kG,kS,if_false,Int.reduceEq]
    exact jQq hN h hpp
  · have hd : (BG x.Op).TT = some 61 := by rw [e]; rfl
    rw [hd];simp only [e,Option.some.injEq,Nat.reduceEqDiff,decide_false,decide_true,kG,kS,if_false,Int.reduceEq]
    exact jQx hp ho hN h
  · have hd : (BG x.Op).TT = some 62 := by rw [e]; rfl
    have hx:=hh (by rw [e];decide)
    rw [hd];simp only [e,Option.some.injEq,Nat.reduceEqDiff,decide_false,decide_true,kG,kS,if_false,Int.reduceEq]
    exact Zc hN h hx
end
theorem RelA.setNow {p:ax} {A:AO} {g:ah} {st:List (Str×ai)} {ru:List (Str×au)} {pe:List (Str×Str)} (h:RelA p A g st ru pe) (t:Int):RelB p { A with now:=t } ({ g with now:=t }:ah) ru:=⟨h.b.plan,rfl,h.b.SX,h.b.SY⟩
def QK (p:ax) (A:AO) (x:cu) (G:AO×List Str×Int):AO×List Str×Int:=bif decide (G.2.2=0) then (({ iY p G.1 with done:=A.done ++ [x] }:AO),[],0) else G
theorem XA {p:ax} {A S:AO} {x:cu} {e:Int} {l:List Str} (he:e≠0):QK p A x (CJ S e l)=CJ S e l:=by
 unfold QK CJ
 simp only []
 rw [dF he];rfl
theorem jZ7 {p:ax} {A:AO} {x:cu} {G:AO×List Str×Int} (he:G.2.2≠0):QK p A x G=G:=by
 unfold QK;rw [dF he];rfl
theorem jWm {p:ax} {A:AO} {x:cu} {G:AO×List Str×Int} (he:G.2.2=0):QK p A x G=(({ iY p G.1 with done:=A.done ++ [x] }:AO),[],0):=by
 unfold QK;rw [dT he];rfl
theorem Do_eq {N:Nat} {p:ax} {A:AO} {g:ah} {st:List (Str×ai)} {ru:List (Str×au)} {pe:List (Str×Str)} (hp:NV p) (ho:QG p) (hN:1000000≤N) (h:RelA p A g st ru pe) (hi:VB p A) (hd:A.done.length<999999) (x:cu) :
    ∃ g' st' GR Tz,oD N g st ru pe x=some (g',st',GR,Tz,(TQ p A x).2.1,(TQ p A x).2.2)∧RelA p (TQ p A x).1 g' st' GR Tz:=by
  have hlim:lim ≥ 10000000:=by decide
  have hm:=hp.m
  obtain ⟨gp,gn,gd⟩:=g
  have hg:p=gp:=h.b.plan.symm
  have hgn:gn=A.now:=h.b.now
  have hgd:gd=A.done:=h.done
  subst hg hgn hgd
  unfold oD TQ
  rw [jZ4,bS]
  have hlen:(VO.length:Int)=12:=rfl
  rw [hlen,bM,yV]
  by_cases hr:x.Op<0∨12≤x.Op∨x.At<0∨1000000<x.At
  · have hr' : (decide (x.Op < 0) || decide (12 ≤ x.Op) || decide (x.At < 0) || decide (1000000 < x.At)) = true := by simpa [or_assoc] using hr
    rw [hr',kS]
    refine ⟨⟨p,A.now,A.done⟩,st,ru,pe,?_,h⟩
    unfold zh
    rw [yV,yA]
    cases hc:(decide (x.Op<0)||decide (12≤x.Op)) with
    | true=>rfl
    | false =>
      simp only [Bool.not_false,kS,bS,Bool.false_or]
      have:(decide (0≤x.At)&&decide (x.At≤1000000))=false:=by
        rw [Bool.or_eq_false_iff,decide_eq_false_iff_not,decide_eq_false_iff_not] at hc
        rw [Bool.and_eq_false_iff,decide_eq_false_iff_not,decide_eq_false_iff_not];omega
      rw [this];rfl
  · have hr' : (decide (x.Op < 0) || decide (12 ≤ x.Op) || decide (x.At < 0) || decide (1000000 < x.At)) = false := by simp; omega
    rw [hr',kG]
    have hop:(decide (x.Op<0)||decide (12≤x.Op))=false:=by simp;omega
    have htm:zh N x.At=some true:=by
      unfold zh;rw [yV,yA,dT (by omega),dT (by omega)];rfl
    rw [hop,htm]
    simp only [Bool.not_false,kS,bS,Bool.not_true,Bool.or_self,kG,bM]
    by_cases hlt:x.At<A.now
    · rw [dT hlt];exact ⟨⟨p,A.now,A.done⟩,st,ru,pe,rfl,h⟩
    rw [dF hlt,kG,kG]
    have hw0:=hi.w
    have hw:WA p A.done { A with now:=x.At }:=hw0.le (fun s=>.inl rfl) (fun _=>rfl) ⟨by show A.now≤x.At;omega,by show x.At≤1000000;omega⟩ hw0.pp (fun s t e=>.inl e) hw0.pl
    have hb0:SS { A with now:=x.At }:=hw.bd (by omega)
    obtain ⟨st1,e1,r1⟩:=PS (pe:=pe) hp ho hN (h.setNow x.At) h.st hb0
    rw [e1,bS,jZ5 (by omega) (by omega),bS,Xy (by omega) (by omega)]
    have hS:RelA p (iY p { A with now:=x.At }) (⟨p,x.At,A.done⟩:ah) st1 ru pe:=⟨⟨rfl,rfl,h.b.SX,h.b.SY⟩,r1,h.pe,h.done⟩
    have hbS:SS (iY p { A with now:=x.At }):=hb0.settle
    have hiS:VB p (iY p { A with now:=x.At }):=JY ho hw
    have hact:∀ (G:AO×List Str×Int),(∃ o,Jp N (⟨p,x.At,A.done⟩:ah) st1 ru pe (BG x.Op).TT x=some o∧QJ p (⟨p,x.At,A.done⟩:ah) G o)→StepA p (iY p { A with now:=x.At }) x G→∃ g' st' GR Tz,((Jp N (⟨p,x.At,A.done⟩:ah) st1 ru pe (BG x.Op).TT x).bind fun v14=>bif (aC .neq v14.2.2.2.e 0) then (some ((⟨p,x.At,A.done⟩:ah),v14.1,v14.2.1,v14.2.2.1,v14.2.2.2.names,v14.2.2.2.e)) else ((lT N (⟨p,x.At,A.done⟩:ah) v14.1 v14.2.1 v14.2.2.1).bind fun v15=>(app A.done [x]).bind fun v16=>some ((⟨p,x.At,v16⟩:ah),v15,v14.2.1,v14.2.2.1,([]:List Str),(0:Int))))=some (g',st',GR,Tz,(QK p A x G).2.1,(QK p A x G).2.2)∧RelA p (QK p A x G).1 g' st' GR Tz:=by
      rintro G ⟨⟨a1,a2,a3,a4⟩,ho1,ho2⟩ hstep
      rw [ho1,bS]
      have hrel:=ho2.rel
      have href:a4=⟨G.2.1,G.2.2⟩:=ho2.ref
      simp only [] at hrel
      subst href
      simp only [wP]
      by_cases h0:G.2.2=0
      · rw [dT h0,jWm h0]
        simp only [Bool.not_true,kG]
        have hw2:=hstep.2.1 _ hiS.w
        have hdn:(iY p { A with now:=x.At }).done=A.done:=rfl
        have hb2:SS G.1:=hw2.bd (by rw [List.length_append,hdn];simp only [List.length_singleton];omega)
        obtain ⟨st2,e2,r2⟩:=PS (pe:=a3) hp ho hN hrel.b hrel.st hb2
        rw [e2,bS,DW (by simp only [List.length_singleton];omega),bS]
        exact ⟨_,_,_,_,rfl,⟨hrel.b.plan,hrel.b.now,hrel.b.SX,hrel.b.SY⟩,r2,hrel.pe,rfl⟩
      · rw [dF h0,jZ7 h0]
        exact ⟨_,_,_,_,rfl,hrel⟩
    have hdeed:=fun hh=>jZ6 hp ho hN hS hbS hiS.w.pp (x:=x) (by omega) (by omega) hh
    have hstep:=XB ho (A:=iY p { A with now:=x.At }) (x:=x) (by omega) (by omega)
    show ∃ g' st' GR Tz,_=some (g',st',GR,Tz,(QK p A x (OM p (iY p { A with now:=x.At }) x)).2.1,(QK p A x (OM p (iY p { A with now:=x.At }) x)).2.2)∧RelA p (QK p A x (OM p (iY p { A with now:=x.At }) x)).1 g' st' GR Tz
    unfold OM at hstep ⊢
    cases hs:FP x.Op with
    | none =>
      rw [hs] at hstep
      simp only [Option.getD_none,List.isEmpty_nil,Bool.not_true,kG,bS,Sum.elim_inl]
      exact hact _ (hdeed fun hn=>absurd hs hn) hstep
    | some l =>
      rw [hs] at hstep
      obtain ⟨hl1,hl2⟩:=jQz hs
      simp only [Option.getD_some,hl1,Bool.not_false,kS] at hstep ⊢
      rw [VJ hp hN,bS]
      simp only []
      cases hh:pF p x.Name with
      | false=>simp only [Bool.not_false,kS];rw [XA (by decide)];exact ⟨_,_,_,_,rfl,hS⟩
      | true =>
        rw [hh] at hstep
        simp only [Bool.not_true,kG] at hstep ⊢
        rw [NZ hN r1 hh hl2,bS]
        cases hc:l.contains (stA (iY p { A with now:=x.At }) x.Name) with
        | false=>simp only [Bool.not_false,kS];rw [XA (by decide)];exact ⟨_,_,_,_,rfl,hS⟩
        | true =>
          rw [hc] at hstep
          simp only [Bool.not_true,kG,bS,Sum.elim_inl] at hstep ⊢
          exact hact _ (hdeed fun _=>hh) hstep
end Go.KB
namespace Go.KB
set_option maxRecDepth 100000
end Go.KB
namespace Go.KB
set_option linter.unusedVariables false
section
variable {N:Nat} {p:ax} {A:AO} {g:ah} {st:List (Str×ai)} {ru:List (Str×au)} {pe:List (Str×Str)}
theorem jV7 (hp:NV p) (hN:1000000≤N) (h:RelA p A g st ru pe):qN N g st ru pe=some (rC p A fun _=>true):=by
 unfold qN
 rw [Q5 hp hN h (φ:=fun y0=>lH N y0) (so:=fun _=>true) (fun _ _=>rfl)];rfl
end
structure RunI (p:ax) (i:Nat) (A:AO) (g:ah) (st:List (Str×ai)) (ru:List (Str×au)) (pe:List (Str×Str)):Prop where
 rel:RelA p A g st ru pe
 inv:VB p A
 len:A.done.length≤i
theorem RunI.bd {p:ax} {i:Nat} {A:AO} {g:ah} {st:List (Str×ai)} {ru:List (Str×au)} {pe:List (Str×Str)} (h:RunI p i A g st ru pe) (hi:i<1000000):SS A:=h.inv.w.bd (Nat.lt_of_le_of_lt h.len hi)
end Go.KB
