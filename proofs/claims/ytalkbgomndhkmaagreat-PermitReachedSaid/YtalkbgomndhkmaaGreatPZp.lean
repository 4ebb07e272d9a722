/- Plain laws of chapter 7: why a permit is not opened. Plain laws of chapter 7: the people in the spaces, in the order of their names. Plain laws of chapter 7: what the program's office does. Plain laws of chapter 7: each event in the program's office. Plain laws of chapter 7: the program's office does what the office by names does. Plain laws of chapter 7: what the statements share. No condition. -/
import Derived.Test.YtalkbgomndhkmaaGreatPZn
import Derived.Test.YtalkbgomndhkmaaGreatPAwk
namespace Go.KB
set_option linter.unusedVariables false
def P6 {S R:Type} (Y:S→R→Option (S×Bool)):List R→S→Option S
 | [],s=>some s
 | r :: l,s=>(Y s r).bind fun v=>bif v.2 then P6 Y l v.1 else some v.1
theorem yloop {S:Type} {N:Nat} {Y:S→bT→Option (S×Bool)} {l:List bT} {s:S} (hl:l.length<1000) (hN:1000000≤N):((bZ (fD N Y l) N (0,s)).bind fun TA=>Sum.elim (fun l17=>some l17) (fun Xu=>some Xu) TA)=P6 Y (l.filter fun r=>!r.Names.isEmpty) s:=by
 have key:∀ k i s,i+k=l.length→∀ M,k<M→((bZ (fD N Y l) M ((i:Int),s)).bind fun TA=>Sum.elim (fun l17=>some l17) (fun Xu=>some Xu) TA)=P6 Y ((l.drop i).filter fun r=>!r.Names.isEmpty) s:=by
  intro k
  induction k with
  | zero =>
   intro i s hi M hM
   obtain ⟨M,rfl⟩:∃ m,M=m+1:=⟨M - 1,by omega⟩
   have:i=l.length:=by omega
   subst this
   have e:fD N Y l ((l.length:Int),s)=some (.inr (Sum.inl s)):=by
    unfold fD
    simp only []
    rw [bH,dF (by omega),lM]
   simp only [bZ,e,List.drop_length];rfl
  | succ k ih =>
   intro i s hi M hM
   obtain ⟨M,rfl⟩:∃ m,M=m+1:=⟨M - 1,by omega⟩
   have hil:i<l.length:=by omega
   have e:fD N Y l ((i:Int),s)=bif !l[i].Names.isEmpty then (Y s l[i]).bind (fun v=>bif v.2 then some (.inl (((i+1:Nat):Int),v.1)) else some (.inr (.inr v.1))) else some (.inl (((i+1:Nat):Int),s)):=by
    unfold fD
    simp only []
    rw [bH,dT (by omega),lN,ig hil,bS,gt0,nY (by omega)]
    cases l[i].Names.isEmpty with
    | true=>rfl
    | false =>
     simp only [Bool.not_false,lN,Bool.true_and]
     congr 1
     funext v
     cases v.2 <;> rfl
   simp only [bZ,e]
   rw [drop_at hil,List.filter_cons]
   cases hn:l[i].Names.isEmpty with
   | true=>simp only [Bool.not_true,lM];exact ih (i+1) s (by omega) M (by omega)
   | false =>
    simp only [Bool.not_false,lN,if_true,P6]
    cases hy:Y s l[i] with
    | none=>rfl
    | some v =>
     simp only [bS]
     cases hv:v.2 with
     | false=>rfl
     | true=>simp only [lN];exact ih (i+1) v.1 (by omega) M (by omega)
 simpa using key l.length 0 s (by omega) N (by omega)
theorem ET {p:GPermitPlan} {A:AO} {N:Nat} {f:(List Str×Int)→Option ((List Str×Int) ⊕ List Str)} {so:aA→Bool} (hp:Fa p) (hN:1000000≤N) (hf:∀ (i:Nat) (hi:i<p.ax.length) (acc:List Str),acc.length<1000000→f (acc,(i:Int))=bif decide (stA A p.ax[i].Name=2)&&so p.ax[i] then ((app acc [p.ax[i].Name]).bind fun v=>some (.inl (v,((i+1:Nat):Int)))) else some (.inl (acc,((i+1:Nat):Int)))) (he:∀ acc,f (acc,(p.ax.length:Int))=some (.inr acc)):bZ f N ([],0)=some (lI p A so):=by
 have hm:=hp.m
 have hlim:lim ≥ 10000000:=by decide
 rw [EL (f:=f) p.ax [] (fun x=>decide (stA A x.Name=2)&&so x) (fun x=>x.Name) (fun a i=>(a,i)) (fun a=>a) (fun i hi acc hacc=>?_) he (by omega)]
 ·rfl
 ·simp only [List.length_nil] at hacc
  rw [hf i hi acc (by omega)]
  cases (decide (stA A p.ax[i].Name=2)&&so p.ax[i]) with
  | false=>rfl
  | true=>simp only [lN];rw [DU (by simp only [List.length_singleton];omega)];rfl
section
variable {N:Nat} {p:GPermitPlan} {A:AO} {g:ah} {st:List (Str×af)} {nP:List (Str×aj)} {pe:List (Str×Str)} (hp:Fa p) (ho:IU p) (hN:1000000≤N) (h:RelA p A g st nP pe) (b:KG A)
include hp hN h
theorem WU {x:aA}:iT N g st nP pe x=some (lI p A fun y=>tX p y x):=by
 have hm:=hp.m
 unfold iT
 rw [ET (f:=fK N g st nP pe x) (A:=A) (so:=fun y=>tX p y x) hp hN (fun i hi acc hacc=>?_) (fun acc=>?_)]
 ·rfl
 ·unfold fK
  simp only []
  rw [h.b.plan,bH,dT (by omega),lN,ig hi,bS,F9 hN h.st (ER hi) (by decide),bS,nY (by omega)]
  have hc:([2]:List Int).contains (stA A p.ax[i].Name)=decide (stA A p.ax[i].Name=2):=by rw [Bool.eq_iff_iff];simp
  have hq:kT N g st nP pe p.ax[i] x=some (tX p p.ax[i] x):=by
   unfold kT
   rw [h.b.plan,IV hp hN];rfl
  rw [hc,hq]
  cases decide (stA A p.ax[i].Name=2) with
  | false=>rfl
  | true=>rfl
 ·unfold fK
  simp only []
  rw [h.b.plan,bH,dF (by omega),lM]
end
end Go.KB
namespace Go.KB
set_option linter.unusedVariables false
theorem Uy (a b c:Str) (h1:a≤b) (h2:b≤c):a≤c:=List.le_trans h1 h2
theorem Uz (a b:Str):a≤b∨b≤a:=List.le_total a b
theorem Oi (a b:Str) (h1:a≤b) (h2:b≤a):a=b:=Std.Antisymm.antisymm (r:=(· ≤ ·)) a b h1 h2
theorem ZV {a b:Str} (h:a<b):a≤b:=List.le_of_lt h
theorem Oj {l m:List Str} (hp:l.Perm m) (hs:m.Pairwise (fun a b=>a<b)):Dj l=m:=by
 unfold Dj
 refine List.Perm.eq_of_pairwise (le:=fun a b:Str=>a≤b) (fun a b _ _ h1 h2=>Oi a b h1 h2) ?_ (hs.imp fun h=>ZV h) ((List.mergeSort_perm _ _).trans hp)
 have:=List.pairwise_mergeSort (le:=fun x y:Str=>decide (x≤y)) (fun a b c h1 h2=>decide_eq_true (Uy a b c (of_decide_eq_true h1) (of_decide_eq_true h2))) (fun a b=>by
  rcases Uz a b with h | h <;> simp [h]) l
 exact this.imp fun h=>of_decide_eq_true h
theorem UA {f:List Str→(Str×Str)→Option (List Str)} {so:Str→Bool} (π:List (Str×Str)) (hf:∀ acc q,q ∈ π→acc.length<1000000→f acc q=some (bif so q.2 then acc ++ [q.1] else acc)):∀ acc,acc.length+π.length<1000000→H6 f π acc=some (acc ++ (π.filter fun q=>so q.2).map fun q=>q.1):=by
 induction π with
 | nil=>intro acc _;simp [H6]
 | cons q r ih =>
  intro acc h
  simp only [List.length_cons] at h
  unfold H6
  rw [hf acc q List.mem_cons_self (by omega),bS,ih (fun acc q hq=>hf acc q (List.mem_cons_of_mem _ hq)) _ (by cases so q.2 <;> simp <;> omega),List.filter_cons]
  cases so q.2 <;> simp
theorem P7 {A : AO} {pe : List (Str × Str)} {f : List Str → (Str × Str) → Option (List Str)} {so : Str → Bool} (hpe : pe.Perm A.pp) (hpp : A.pp.Pairwise (fun a b => a.1 < b.1)) (hl : A.pp.length < 1000000) (hf : ∀ acc q, q ∈ pe → acc.length < 1000000 → f acc q = some (bif so q.2 then acc ++ [q.1] else acc)) :
    (FY pe fun q=>(H6 f q []).bind fun s=>(MG s).bind fun v=>some v)=some (Ai A so):=by
  refine TJ fun π hπ=>?_
  have hp:π.Perm A.pp:=hπ.trans hpe
  have hlen:π.length=A.pp.length:=hp.length_eq
  rw [UA (so:=so) π (fun acc q hq h=>hf acc q (hπ.mem_iff.1 hq) h) [] (by simp;omega),bS,List.nil_append]
  have hs:MG ((π.filter fun q=>so q.2).map fun q=>q.1)=some (Ai A so):=by
    unfold MG
    have h1:((π.filter fun q=>so q.2).map fun q=>q.1).length≤1000000:=by
      rw [List.length_map];have:=List.length_filter_le (fun q:Str×Str=>so q.2) π;omega
    rw [Nat.ble_eq_true_of_le h1,lN]
    congr 1
    refine Oj ((hp.filter _).map _) ?_
    unfold Ai
    rw [List.pairwise_map]
    exact List.Pairwise.filter _ hpp
  rw [hs];rfl
end Go.KB
namespace Go.KB
set_option linter.unusedVariables false
theorem ne0 {α:Type} {l:List α}:aN .eql (List.length l:Int) 0=l.isEmpty:=by
 rw [rM]
 cases l with
 | nil=>rfl
 | cons x r=>simp;omega
def WV (R:AO×List Str×Int) (a b:List (Str×af)):List (Str×af)×ai:=(bif decide (R.2.2=0) then a else b,⟨R.2.1,R.2.2⟩)
theorem P8 {A:AO} {e:Int} {l:List Str} {a b:List (Str×af)} (he:e≠0):WV (wO A e l) a b=(b,⟨l,e⟩):=by
 show ((bif decide (e=0) then a else b),(⟨l,e⟩:ai))=_
 rw [dF he];rfl
theorem Rz {l:List bT} {g:ai→bT→Option (ai×Option Nat)} (hg:∀ s r,g s r=some (⟨r.Names,r.Err⟩,some 0)):P6 (yl g 1) l ((⟨[],0⟩:ai),none)=some (match l with | []=>(⟨[],0⟩,none) | r :: _=>(⟨r.Names,r.Err⟩,some 0)):=by
 cases l with
 | nil=>rfl
 | cons r l =>
  unfold P6 yl
  simp only [hg]
  rfl
theorem Tf {p:GPermitPlan} {A:AO} {x:aA}:∀ r ∈ Lr p A x,r.Err≠0:=by
 intro r hr
 unfold Lr at hr
 rcases List.mem_append.1 hr with hr | hr
 ·cases hd:decide (A.now<x.From) with
  | false=>rw [hd] at hr;cases hr
  | true=>rw [hd,lN,List.mem_singleton] at hr;subst hr;decide
 ·have hr:=(List.mem_filter.1 hr).1
  rcases List.mem_append.1 hr with hr | hr
  ·simp only [List.mem_cons,List.not_mem_nil,or_false] at hr
   rcases hr with rfl | rfl | rfl <;> simp
  ·cases hd:decide (x.Kind=3) with
   | false=>rw [hd] at hr;cases hr
   | true=>rw [hd,lN,List.mem_singleton] at hr;subst hr;simp
section
variable {N:Nat} {p:GPermitPlan} {A:AO} {g:ah} {st:List (Str×af)} {nP:List (Str×aj)} {pe:List (Str×Str)} (hp:Fa p) (ho:IU p) (hN:1000000≤N) (h:RelA p A g st nP pe) (b:KG A) (hpp:A.pp.Pairwise (fun a b=>a.1<b.1))
include hp hN h
theorem Jo {φ:aA→Option Bool} {so:aA→Bool} (hφ:∀ y ∈ p.ax,φ y=some (so y)):gY N g st nP pe φ=some (lI p A so):=by
 have hm:=hp.m
 unfold gY
 rw [ET (f:=kU N g st nP pe φ) (A:=A) (so:=so) hp hN (fun i hi acc hacc=>?_) (fun acc=>?_)]
 ·rfl
 ·unfold kU
  simp only []
  rw [h.b.plan,bH,dT (by omega),lN,ig hi,bS,F9 hN h.st (ER hi) (by decide),bS,nY (by omega)]
  have hc:([2]:List Int).contains (stA A p.ax[i].Name)=decide (stA A p.ax[i].Name=2):=by rw [Bool.eq_iff_iff];simp
  rw [hc,hφ _ (List.getElem_mem hi)]
  cases decide (stA A p.ax[i].Name=2) <;> rfl
 ·unfold kU
  simp only []
  rw [h.b.plan,bH,dF (by omega),lM]
theorem UB {s:Str}:nJ N g st nP pe s=some (zI p A s):=by
 unfold nJ zI
 rw [Jo hp hN h (so:=fun y=>decide (y.Kind=1)&&decide (y.Space=s)) (fun y _=>by unfold ku;rw [rM,qN]),bS,gt0]
include b hpp
omit hp hN in
theorem RD {φ:Str→Option Bool} {so:Str→Bool} (hφ:∀ s,φ s=some (so s)):jU N g st nP pe φ=some (Ai A so):=by
 have hlim:lim ≥ 10000000:=by decide
 unfold jU
 refine P7 (f:=lq N φ) h.pe hpp b.pl fun acc q _ hacc=>?_
 unfold lq
 rw [hφ,bS]
 cases so q.2 with
 | false=>rfl
 | true=>rw [lN,lN,DU (by simp only [List.length_singleton];omega)];rfl
theorem P9 {x:aA}:iD N g st nP pe x=some (Ai A fun s=>decide (oQ p s x.Space≤1)):=by
 have hlim:lim ≥ 10000000:=by decide
 unfold iD
 refine P7 (f:=gB N g st nP x) (so:=fun s=>decide (oQ p s x.Space≤1)) h.pe hpp b.pl fun acc q _ hacc=>?_
 unfold gB lT
 rw [h.b.plan,G5 hp hN,bS,bS,wE]
 cases decide (oQ p q.2 x.Space≤1) with
 | false=>rfl
 | true=>rw [lN,lN,DU (by simp only [List.length_singleton];omega)];rfl
include ho
theorem RF {S:Type} {Y:S→bT→Option (S×Bool)} {y0:S} {x:aA} (hx:x ∈ p.ax):jJ N Y y0 g st nP pe x=P6 Y (Lr p A x) y0:=by
 have hlim:lim ≥ 10000000:=by decide
 unfold jJ Lr
 rw [bH,h.b.now,IY hp hN h.st (hp.l _ hx) (fun l hl=>(ho.lk _ hx l hl).1),WU hp hN h,KH hp hN h.b b,P9 hp hN h b hpp,rM]
 simp only [bS]
 have hl:((bif decide (x.Kind=3) then ((app [(⟨18,Il A x⟩:bT),(⟨20,lI p A fun y=>tX p y x⟩:bT),(⟨21,Fp p A x⟩:bT)] [(⟨17,Ai A fun s=>decide (oQ p s x.Space≤1)⟩:bT)]).bind fun v6=>some v6) else (some [(⟨18,Il A x⟩:bT),(⟨20,lI p A fun y=>tX p y x⟩:bT),(⟨21,Fp p A x⟩:bT)])):Option (List bT))=some ([(⟨18,Il A x⟩:bT),(⟨20,lI p A (fun y=>tX p y x)⟩:bT),(⟨21,Fp p A x⟩:bT)] ++ (bif decide (x.Kind=3) then [(⟨17,Ai A (fun s=>decide (oQ p s x.Space≤1))⟩:bT)] else [])):=by
  cases decide (x.Kind=3) with
  | false=>rfl
  | true=>rw [lN,DU (by simp only [List.length_cons,List.length_nil];omega)];rfl
 rw [hl]
 simp only [bS]
 have hlen:([(⟨18,Il A x⟩:bT),(⟨20,lI p A (fun y=>tX p y x)⟩:bT),(⟨21,Fp p A x⟩:bT)] ++ (bif decide (x.Kind=3) then [(⟨17,Ai A (fun s=>decide (oQ p s x.Space≤1))⟩:bT)] else [])).length<1000:=by
  cases decide (x.Kind=3) <;> simp
 simp only [yloop hlen hN]
 cases hd:decide (A.now<x.From) with
 | false=>simp only [lM,bS,Bool.false_and,List.nil_append]
 | true =>
  simp only [lN,Bool.true_and,List.singleton_append,P6]
  congr 1
  funext v
  cases v.2 <;> rfl
theorem WW {x:GEvent} (hh:mg p x.Name=true):lW N g st nP pe x=some (WV (Et p A x) (pI st x.Name { A.es x.Name with state:=2 }) st):=by
 have hm:=hp.m
 unfold lW Et
 rw [Aj (by omega),bS,qN,h.st.get _ hh]
 cases kz x.Person with
 | false=>rfl
 | true =>
  cases decide (x.Person=(A.es x.Name).Gt) with
  | true=>rfl
  | false =>
   simp only [Bool.not_true,lM]
   rw [h.b.plan,Bc (by omega) hN,bS]
   unfold pO
   rw [bS]
   show ((jJ N (yl (iM N) 1) ((⟨[],0⟩:ai),none) g st nP pe (qH p x.Name)).bind _)=_
   rw [RF hp ho hN h b hpp (yT hh).1,Rz (g:=iM N) (fun s r=>rfl),bS]
   have hw:=Tf (p:=p) (A:=A) (x:=qH p x.Name)
   cases hwy:Lr p A (qH p x.Name) with
   | nil =>
    simp only [Hy]
    unfold dL
    rw [h.st.get _ hh];rfl
   | cons r l =>
    have h0:r.Err≠0:=hw r (by rw [hwy];exact List.mem_cons_self)
    show (bif decide True then some (st,(⟨r.Names,r.Err⟩:ai)) else none)=some (WV (wO A r.Err r.Names) _ st)
    rw [P8 h0];rfl
omit ho in
theorem UC {x:GEvent} (hh:mg p x.Name=true):lD N g st nP pe x=some (WV (EP p A x) (pI st x.Name { A.es x.Name with state:=4 }) st):=by
  have hm:=hp.m
  have hs:=hp.s
  obtain ⟨hy,hyn⟩:=yT hh
  have hb:dL N g st nP pe x.Name 4=some (pI st x.Name { A.es x.Name with state:=4 }):=by
    unfold dL;rw [h.st.get _ hh]
  unfold lD EP
  rw [h.b.plan,Bc (by omega) hN,bS]
  show ((iE N p (qH p x.Name).Space).bind fun v2=>_)=_
  rw [xg (by omega) hN,bS]
  simp only []
  have e1:gY N g st nP pe (fun y0=>jc N y0 (qH p x.Name))=some (lI p A (fun z=>IW z.Locks (qH p x.Name).Name)):=Jo hp hN h fun y hy=>by
    unfold jc;rw [KJ (Nat.lt_trans (hp.l y hy) (by decide)) hN];rfl
  have e2:gY N g st nP pe (fun y0=>jd N y0 (qH p x.Name))=some (lI p A (fun z=>decide (z.Kind=1)&&decide (z.Space=(qH p x.Name).Space) && !decide (z.Name=(qH p x.Name).Name))):=Jo hp hN h fun y hy=>by
    unfold jd;rw [rM,qN,PS]
  have e3:jU N g st nP pe (fun y0=>je N y0 (qH p x.Name))=some (Ai A (fun s=>decide (s=(qH p x.Name).Space))):=RD h b hpp fun s=>by
    unfold je;rw [qN]
  have e4:dQ N g st nP pe (qH p x.Name).Name [2]=some (decide (stA A (qH p x.Name).Name=2)):=by
    rw [F9 hN h.st (by rw [hyn];exact hh) (by decide)]
    congr 1;rw [Bool.eq_iff_iff];simp
  show (((bif aN .eql (qH p x.Name).Kind 5 then ((gY N g st nP pe (fun y0=>jc N y0 (qH p x.Name))).bind fun v3=>bif (aN .gtr (List.length v3:Int) 0) then ((jg N 20 v3).bind fun v4=>some (Sum.inr v4)) else (some (Sum.inl (⟨[],0⟩:ai)))) else ((bif aN .eql (qH p x.Name).Kind 1 then (dQ N g st nP pe (qH p x.Name).Name [2]) else some false).bind fun v6=>bif ((aN .eql (qH p x.Name).Kind 1&&v6)&&(yF p (qH p x.Name).Space).dW) then ((gY N g st nP pe (fun y0=>jd N y0 (qH p x.Name))).bind fun v7=>(jU N g st nP pe (fun y0=>je N y0 (qH p x.Name))).bind fun v8=>bif (aN .eql (List.length v7:Int) 0&&aN .gtr (List.length v8:Int) 0) then ((jg N 21 v8).bind fun v9=>some (Sum.inr v9)) else (some (Sum.inl (⟨[],0⟩:ai)))) else (some (Sum.inl (⟨[],0⟩:ai))))):Option (ai ⊕ ai)).bind fun RQ=>Sum.elim (fun l15=>(dL N g st nP pe x.Name 4).bind fun v17=>some (v17,(⟨[],0⟩:ai))) (fun r16=>some (st,r16)) RQ)=_
  rw [e1,e2,e3,e4,hb]
  simp only [bS,gt0,ne0]
  simp only [rM]
  unfold jg
  by_cases h5:(qH p x.Name).Kind=5
  · rw [dT h5, dF (show ¬ (qH p x.Name).Kind = 1 by omega)]
    simp only [lN,Bool.true_and,Bool.false_and,lM]
    cases (lI p A (fun z=>IW z.Locks (qH p x.Name).Name)).isEmpty <;> rfl
  · rw [dF h5]
    simp only [lM,Bool.false_and]
    cases decide ((qH p x.Name).Kind=1) with
    | false=>rfl
    | true =>
      simp only [lN,Bool.true_and,bS]
      cases decide (stA A (qH p x.Name).Name=2) with
      | false=>rfl
      | true =>
        cases (yF p (qH p x.Name).Space).dW with
        | false=>rfl
        | true =>
          simp only [Bool.true_and,lN]
          cases (lI p A (fun z=>decide (z.Kind=1)&&decide (z.Space=(qH p x.Name).Space) && !decide (z.Name=(qH p x.Name).Name))).isEmpty with
          | false=>rfl
          | true=>cases (Ai A (fun s=>decide (s=(qH p x.Name).Space))).isEmpty <;> rfl
end
end Go.KB
namespace Go.KB
set_option linter.unusedVariables false
theorem Qa {α β:Type} [DecidableEq α] {k:α} {y:β}:∀ {m:List (α×β)},mr m k=false→pI m k y=m ++ [(k,y)]
 | [],_=>rfl
 | q :: r,h=>by
  unfold mr at h
  rw [Bool.or_eq_false_iff] at h
  unfold pI
  rw [h.1,lM,Qa h.2];rfl
theorem Qb {β : Type} {k : Str} : ∀ {m : List (Str × β)}, mr m k = m.any fun q => decide (q.1 = k)
  | []=>rfl
  | q :: r=>by
    unfold mr
    rw [List.any_cons,Qb,show decide (k=q.1)=decide (q.1=k) from decide_eq_decide.2 ⟨Eq.symm,Eq.symm⟩]
theorem WX {α:Type} {l m:List α} {f:α→Bool} (h:l.Perm m):l.any f=m.any f:=by
 rw [Bool.eq_iff_iff,List.any_eq_true,List.any_eq_true]
 exact ⟨fun ⟨x,a,b⟩=>⟨x,h.mem_iff.1 a,b⟩,fun ⟨x,a,b⟩=>⟨x,h.mem_iff.2 a,b⟩⟩
theorem Qc {n s:Str}:∀ {l:List (Str×Str)},(Io l n s).Perm ((n,s) :: l)
 | []=>List.Perm.refl _
 | q :: r=>by
  unfold Io
  cases decide (q.1<n) with
  | false=>exact List.Perm.refl _
  | true=>exact (Qc.cons q).trans (List.Perm.swap _ _ _)
theorem I5 {β : Type} {k : Str} : ∀ {m : List (Str × β)}, (m.map fun q => q.1).Nodup → DZ m k = m.filter fun q => !decide (q.1 = k)
  | [],_=>rfl
  | q :: r,h=>by
    rw [List.map_cons,List.nodup_cons] at h
    unfold DZ
    rw [List.filter_cons]
    by_cases hk:k=q.1
    · rw [dT hk,dT hk.symm,lN]
      simp only [Bool.not_true,Bool.false_eq_true,if_false]
      refine (List.filter_eq_self.2 fun a ha=>?_).symm
      rw [Bool.not_eq_true',decide_eq_false_iff_not]
      intro he
      exact h.1 (List.mem_map.2 ⟨a,ha,he.trans hk⟩)
    · rw [dF hk,dF (fun e=>hk e.symm),lM,I5 h.2];rfl
theorem WY {l:List (Str×Str)} (h:l.Pairwise (fun a b=>a.1<b.1)):(l.map fun q=>q.1).Nodup:=by
 unfold List.Nodup
 rw [List.pairwise_map]
 exact h.imp fun {a b} hab he=>by
  have hab':a.1<b.1:=hab
  rw [he] at hab'
  exact List.lt_irrefl _ hab'
theorem Ew {N:Nat} {p:GPermitPlan} {s:Str} (hp:Fa p) (hN:1000000≤N):iE N p s=some (yF p s,zH p s):=by
 have:=hp.s
 rw [xg (by omega) hN]
 exact congrArg some (Prod.ext rfl ES)
theorem Ol {N:Nat} {p:GPermitPlan} {s:Str} (hp:Fa p) (hN:1000000≤N):lU N p s=some (qH p s,mg p s):=by
 have:=hp.m
 rw [Bc (by omega) hN]
 exact congrArg some (Prod.ext rfl ES)
structure Jd (p:GPermitPlan) (g:ah) (R:AO×List Str×Int) (o:List (Str×af)×List (Str×aj)×List (Str×Str)×ai):Prop where
 rel:RelA p R.1 g o.1 o.2.1 o.2.2.1
 ref:o.2.2.2=⟨R.2.1,R.2.2⟩
theorem RelA.up {p:GPermitPlan} {A:AO} {g:ah} {st:List (Str×af)} {nP:List (Str×aj)} {pe:List (Str×Str)} (h:RelA p A g st nP pe) {n:Str} (hn:mg p n=true) (e:af):RelA p (Xg A n e) g (pI st n e) nP pe :=
 ⟨⟨h.b.plan,h.b.now,h.b.KD,h.b.KF⟩,h.st.set hn e,h.pe,h.done⟩
section
variable {N:Nat} {p:GPermitPlan} {A:AO} {g:ah} {st:List (Str×af)} {nP:List (Str×aj)} {pe:List (Str×Str)} (hp:Fa p) (ho:IU p) (hN:1000000≤N) (h:RelA p A g st nP pe) (b:KG A) (hpp:A.pp.Pairwise (fun a b=>a.1<b.1))
theorem wF (h:RelA p A g st nP pe) {e:Int} {l:List Str}:Jd p g (wO A e l) (st,nP,pe,⟨l,e⟩):=⟨h,rfl⟩
include hN h
theorem Qd {x:GEvent} (hh:mg p x.Name=true):∃ o,((mY N g st nP pe x).bind fun y=>some (y.1,nP,pe,y.2))=some o∧Jd p g (GY A x) o:=by
 unfold mY GY
 rw [Aj (by omega),bS,h.st.get _ hh]
 cases kz x.Person with
 | false=>exact ⟨_,rfl,wF h⟩
 | true=>exact ⟨_,rfl,h.up hh _,rfl⟩
theorem RG {x:GEvent} (hh:mg p x.Name=true):∃ o,((nK N g st nP pe x).bind fun y=>some (y.1,nP,pe,y.2))=some o∧Jd p g (Jk A x) o:=by
 unfold nK Jk
 rw [Aj (by omega),bS,h.st.get _ hh,wE,qo]
 cases kz x.Person with
 | false=>exact ⟨_,rfl,wF h⟩
 | true =>
  cases (decide (x.To≤(A.es x.Name).Be)||decide (1000000<x.To)) with
  | true=>exact ⟨_,rfl,wF h⟩
  | false=>exact ⟨_,rfl,h.up hh _,rfl⟩
omit hN in
theorem KP {x:GEvent} {k:Int} (hh:mg p x.Name=true):∃ o,(((dL N g st nP pe x.Name k).bind fun v1=>some (v1,(⟨[],0⟩:ai))).bind fun y=>some (y.1,nP,pe,y.2))=some o∧Jd p g (DV (beA A x.Name k)) o:=by
 unfold dL
 rw [h.st.get _ hh]
 exact ⟨_,rfl,h.up hh _,rfl⟩
include hp b hpp ho
theorem MS {x:GEvent} (hh:mg p x.Name=true):∃ o,((lW N g st nP pe x).bind fun y=>some (y.1,nP,pe,y.2))=some o∧Jd p g (Et p A x) o:=by
 rw [WW hp ho hN h b hpp hh]
 refine ⟨_,rfl,?_,rfl⟩
 simp only []
 unfold Et
 cases kz x.Person with
 | false=>exact h
 | true =>
  cases decide (x.Person=(A.es x.Name).Gt) with
  | true=>exact h
  | false =>
   simp only [Bool.not_true,lM]
   have hw:=Tf (p:=p) (A:=A) (x:=qH p x.Name)
   cases hwy:Lr p A (qH p x.Name) with
   | nil=>exact h.up hh _
   | cons r l =>
    have h0:r.Err≠0:=hw r (by rw [hwy];exact List.mem_cons_self)
    show RelA p A g (WV (wO A r.Err r.Names) _ st).1 nP pe
    rw [P8 h0];exact h
omit ho in
theorem RH {x:GEvent} (hh:mg p x.Name=true):∃ o,((lD N g st nP pe x).bind fun y=>some (y.1,nP,pe,y.2))=some o∧Jd p g (EP p A x) o:=by
 rw [UC hp hN h b hpp hh]
 refine ⟨_,rfl,?_,rfl⟩
 simp only []
 unfold EP
 simp only []
 cases (decide ((qH p x.Name).Kind=5) && !(lI p A (fun z=>IW z.Locks (qH p x.Name).Name)).isEmpty) with
 | true=>exact h
 | false =>
  rw [lM]
  cases (decide ((qH p x.Name).Kind=1)&&decide (stA A (qH p x.Name).Name=2)&&(yF p (qH p x.Name).Space).dW&&(lI p A (fun z=>decide (z.Kind=1)&&decide (z.Space=(qH p x.Name).Space) && !decide (z.Name=(qH p x.Name).Name))).isEmpty && !(Ai A (fun s=>decide (s=(qH p x.Name).Space))).isEmpty) with
  | true=>exact h
  | false=>exact h.up hh _
omit ho hpp b
theorem Yd {x:GEvent}:∃ o,((pU N g st nP pe x).bind fun y=>some (st,y.1,pe,y.2))=some o∧Jd p g (X4 p A x) o:=by
 have hs:=hp.s
 unfold pU X4
 rw [h.b.plan,Ew hp hN,bS]
 simp only [bH,qo]
 cases zH p x.Space with
 | false=>exact ⟨_,rfl,wF h⟩
 | true =>
  simp only [Bool.not_true,lM]
  cases (decide (x.vS<0)||decide (1000<x.vS)||decide (x.OH<0)||decide (1000<x.OH)) with
  | true=>exact ⟨_,rfl,wF h⟩
  | false =>
   refine ⟨_,rfl,⟨⟨h.b.plan,h.b.now,fun s=>?_,fun s t e=>?_⟩,h.st,h.pe,h.done⟩,rfl⟩
   ·simp only [lM,DV]
    rw [EQ,h.b.KD]
    cases decide (s=x.Space) <;> rfl
   ·simp only [lM,DV] at e ⊢
    rw [Cf]
    by_cases he:s=x.Space
    ·rw [dT he] at e;cases e;rw [if_pos he,h.b.now]
    ·rw [dF he] at e;rw [if_neg he];exact h.b.KF s t e
theorem WZ {s:Str}:jl N g st nP pe (yF p s)=some (lI p A (fun y=>decide (y.Kind=3)&&decide (oQ p y.Space (yF p s).Name≤1))):=by
 have hm:=hp.m
 unfold jl
 rw [ET (f:=gJ N g st nP pe (yF p s)) (A:=A) (so:=fun y=>decide (y.Kind=3)&&decide (oQ p y.Space (yF p s).Name≤1)) hp hN (fun i hi acc hacc=>?_) (fun acc=>?_)]
 ·rfl
 ·unfold gJ
  simp only []
  rw [h.b.plan,bH,dT (by omega),lN,ig hi,bS,F9 hN h.st (ER hi) (by decide),bS,nY (by omega)]
  have hc:([2]:List Int).contains (stA A p.ax[i].Name)=decide (stA A p.ax[i].Name=2):=by rw [Bool.eq_iff_iff];simp
  have hq:mV N g st nP pe p.ax[i] (yF p s)=some (decide (p.ax[i].Kind=3)&&decide (oQ p p.ax[i].Space (yF p s).Name≤1)):=by
   unfold mV
   rw [h.b.plan,G5 hp hN,rM]
   cases decide (p.ax[i].Kind=3) with
   | false=>rfl
   | true=>simp only [lN,bS,Bool.true_and,wE]
  rw [hc,hq]
  cases decide (stA A p.ax[i].Name=2) <;> rfl
 ·unfold gJ
  simp only []
  rw [h.b.plan,bH,dF (by omega),lM]
theorem W9 {x:GEvent}:jm N g st nP pe x=some (lI p A (fun y=>!decide (y.Kind=5)&&decide (oQ p y.Space x.Space≤1))):=by
 have hm:=hp.m
 unfold jm
 rw [ET (f:=gK N g st nP pe x) (A:=A) (so:=fun y=>!decide (y.Kind=5)&&decide (oQ p y.Space x.Space≤1)) hp hN (fun i hi acc hacc=>?_) (fun acc=>?_)]
 ·rfl
 ·unfold gK
  simp only []
  rw [h.b.plan,bH,dT (by omega),lN,ig hi,bS,F9 hN h.st (ER hi) (by decide),bS,nY (by omega)]
  have hc:([2]:List Int).contains (stA A p.ax[i].Name)=decide (stA A p.ax[i].Name=2):=by rw [Bool.eq_iff_iff];simp
  have hq:mX N g st nP pe p.ax[i] x=some (!decide (p.ax[i].Kind=5)&&decide (oQ p p.ax[i].Space x.Space≤1)):=by
   unfold mX
   rw [h.b.plan,G5 hp hN,rJ]
   cases (!decide (p.ax[i].Kind=5)) with
   | false=>rfl
   | true=>simp only [lN,bS,Bool.true_and,wE]
  rw [hc,hq]
  cases decide (stA A p.ax[i].Name=2) <;> rfl
 ·unfold gK
  simp only []
  rw [h.b.plan,bH,dF (by omega),lM]
omit hp hN in
theorem Iu {n:Str}:mr pe n=Dv A n:=by
 rw [Qb,WX h.pe];rfl
theorem UD {x:GEvent}:∃ o,((oq N g st nP pe x).bind fun y=>some (st,nP,y.1,y.2))=some o∧Jd p g (Ob p A x) o:=by
 have hs:=hp.s
 unfold oq Ob
 rw [Aj (by omega),bS,h.b.plan]
 cases kz x.Person with
 | false=>exact ⟨_,rfl,wF h⟩
 | true =>
  simp only [Bool.not_true,lM]
  rw [Ew hp hN,bS]
  simp only []
  cases hh:zH p x.Space with
  | false=>exact ⟨_,rfl,wF h⟩
  | true =>
   have hnm:=(WE hh).2
   simp only [Bool.not_true,lM]
   rw [UB hp hN h,WZ hp hN h,Iu h,hnm]
   cases hi:Dv A x.Person with
   | true=>exact ⟨_,rfl,wF h⟩
   | false =>
    simp only [lM]
    have hx:((bif (yF p x.Space).dW then (some (zI p A x.Space)) else some false).bind fun v6=>(some (((yF p x.Space).dW&&(!v6))):Option Bool))=some ((yF p x.Space).dW && !zI p A x.Space):=by
     cases (yF p x.Space).dW <;> rfl
    have hx2:∀ (F:Bool→Option (List (Str×Str)×ai)),((bif (yF p x.Space).dW then (some (zI p A x.Space)) else some false).bind fun v6=>F ((yF p x.Space).dW&&(!v6)))=F ((yF p x.Space).dW && !zI p A x.Space):=by
     intro F;cases (yF p x.Space).dW <;> rfl
    rw [hx2 (fun c=>bif c then _ else _)]
    cases ((yF p x.Space).dW && !zI p A x.Space) with
    | true=>exact ⟨_,rfl,wF h⟩
    | false =>
     simp only [lM,bS,gt0]
     cases (!(lI p A (fun y=>decide (y.Kind=3)&&decide (oQ p y.Space x.Space≤1))).isEmpty) with
     | true=>exact ⟨_,rfl,wF h⟩
     | false =>
      refine ⟨_,rfl,⟨⟨h.b.plan,h.b.now,h.b.KD,h.b.KF⟩,h.st,?_,h.done⟩,rfl⟩
      show (pI pe x.Person x.Space).Perm (Io A.pp x.Person x.Space)
      rw [Qa (by rw [Iu h];exact hi)]
      exact (List.perm_append_singleton _ _).trans ((h.pe.cons _).trans Qc.symm)
include hpp
omit hp in
theorem UE {x:GEvent}:∃ o,((ou N g st nP pe x).bind fun y=>some (st,nP,y.1,y.2))=some o∧Jd p g (Oc A x) o:=by
 unfold ou Oc
 rw [Aj (by omega),bS,Iu h]
 cases kz x.Person with
 | false=>exact ⟨_,rfl,wF h⟩
 | true =>
  cases Dv A x.Person with
  | false=>exact ⟨_,rfl,wF h⟩
  | true =>
   refine ⟨_,rfl,⟨⟨h.b.plan,h.b.now,h.b.KD,h.b.KF⟩,h.st,?_,h.done⟩,rfl⟩
   show (DZ pe x.Person).Perm (A.pp.filter fun q=>!decide (q.1=x.Person))
   rw [I5]
   ·exact h.pe.filter _
   ·exact ((h.pe.map _).nodup_iff).2 (WY hpp)
omit hpp
include ho
theorem UF {x:GEvent}:∃ o,((oz N g st nP pe x).bind fun y=>some (y.1,nP,pe,y.2))=some o∧Jd p g (Oe p A x) o:=by
 have hs:=hp.s
 have hm:=hp.m
 unfold oz Oe
 rw [h.b.plan,Ew hp hN,bS]
 simp only []
 cases zH p x.Space with
 | false=>exact ⟨_,rfl,wF h⟩
 | true =>
  simp only [Bool.not_true,lM]
  rw [W9 hp hN h,bS]
  have hmem:∀ s ∈ lI p A (fun y=>!decide (y.Kind=5)&&decide (oQ p y.Space x.Space≤1)),mg p s=true:=by
   intro s hs
   unfold lI at hs
   obtain ⟨y,hy,rfl⟩:=List.mem_map.1 hs
   exact Ce.2 ⟨y,(List.mem_filter.1 hy).1,rfl⟩
  have hlen:(lI p A (fun y=>!decide (y.Kind=5)&&decide (oQ p y.Space x.Space≤1))).length≤p.ax.length:=by
   unfold lI;rw [List.length_map];exact List.length_filter_le _ _
  have hin:∀ s,mg p s=true→IW (lI p A (fun y=>!decide (y.Kind=5)&&decide (oQ p y.Space x.Space≤1))) s=(mg p s&&decide (stA A s=2)&&(!decide ((qH p s).Kind=5)&&decide (oQ p (qH p s).Space x.Space≤1))):=by
   intro s hs
   rw [hs,Bool.true_and,Bool.eq_iff_iff,Ya]
   unfold lI
   rw [List.mem_map]
   constructor
   ·rintro ⟨y,hy,rfl⟩
    obtain ⟨hy1,hy2⟩:=List.mem_filter.1 hy
    rw [ho.Em hy1];exact hy2
   ·intro hb
    obtain ⟨h1,h2⟩:=yT hs
    refine ⟨qH p s,List.mem_filter.2 ⟨h1,?_⟩,h2⟩
    rw [h2];exact hb
  generalize lI p A (fun y=>!decide (y.Kind=5)&&decide (oQ p y.Space x.Space≤1))=L at hmem hlen hin
  have key:∃ st',bZ (jK N g nP pe L) N (0,st)=some st'∧KC p (fun n=>bif IW L n then ({ A.es n with state:=3 }:af) else A.es n) st':=by
   refine Ei (N:=N) (n:=L.length) (f:=jK N g nP pe L) (s0:=(0,st)) (fun i s=>s.1=(i:Int)∧KC p (fun n=>bif IW (L.take i) n then ({ A.es n with state:=3 }:af) else A.es n) s.2) (fun st'=>KC p (fun n=>bif IW L n then ({ A.es n with state:=3 }:af) else A.es n) st') ⟨rfl,h.st.congr fun s _=>by unfold IW;simp⟩ (fun i s hi hs=>?_) (fun s hs=>?_) (by omega)
   ·obtain ⟨s1,st'⟩:=s
    obtain ⟨rfl,hr⟩:=hs
    simp only [] at hr
    have hn:=hmem _ (List.getElem_mem hi)
    refine ⟨_,by unfold jK dL;simp only [];rw [bH,dT (by omega),lN,ig hi,bS,bS,nY (by omega)],rfl,?_⟩
    refine (hr.set hn _).congr fun s hs=>?_
    simp only []
    rw [hr.get _ hn]
    have htk:IW (L.take (i+1)) s=(IW (L.take i) s||decide (s=L[i])):=by
     unfold IW;rw [List.take_succ_eq_append_getElem hi,List.any_append];simp
    rw [htk]
    by_cases he:s=L[i]
    ·subst he
     rw [dT rfl,Bool.or_true,lN,lN]
     cases IW (L.take i) L[i] <;> rfl
    ·rw [dF he,Bool.or_false];rfl
   ·obtain ⟨s1,st'⟩:=s
    obtain ⟨rfl,hr⟩:=hs
    refine ⟨st',?_,?_⟩
    ·unfold jK
     simp only []
     rw [bH,dF (by omega),lM]
    ·rw [List.take_length] at hr;exact hr
  obtain ⟨st',h1,h2⟩:=key
  rw [h1]
  refine ⟨_,rfl,⟨⟨h.b.plan,h.b.now,h.b.KD,h.b.KF⟩,h2.congr fun s hs=>?_,h.pe,h.done⟩,rfl⟩
  show _=(bif mg p s&&decide (stA A s=2)&&(!decide ((qH p s).Kind=5)&&decide (oQ p (qH p s).Space x.Space≤1)) then ({ A.es s with state:=3 }:af) else A.es s)
  rw [hin s hs]
end
end Go.KB
namespace Go.KB
set_option linter.unusedVariables false
instance:Inhabited aY:=⟨⟨[],[],[],none⟩⟩
def Om:List aY:=(uD 0).getD []
theorem Xa {N:Nat}:uD N=some Om:=rfl
def wo (op:Int):aY:=Om[op.toNat]!
theorem KQ {op:Int} (h0:0≤op) (h12:op<12):op=0∨op=1∨op=2∨op=3∨op=4∨op=5∨op=6∨op=7∨op=8∨op=9∨op=10∨op=11:=by omega
theorem Xb {op:Int} (h0:0≤op) (h12:op<12):idx Om op=some (wo op):=by
 rcases KQ h0 h12 with h | h | h | h | h | h | h | h | h | h | h | h <;> subst h <;> rfl
theorem Qe {op:Int} (h0:0≤op) (h12:op<12):(wo op).states=(Du op).getD []:=by
 rcases KQ h0 h12 with h | h | h | h | h | h | h | h | h | h | h | h <;> subst h <;> rfl
theorem UG {op:Int} {l:List Int} (h:Du op=some l):l.isEmpty=false∧l.length<100:=by
 unfold Du at h
 repeat' split at h
 all_goals first | (cases h;exact ⟨rfl,by decide⟩) | cases h
section
variable {N:Nat} {p:GPermitPlan} {A:AO} {g:ah} {st:List (Str×af)} {nP:List (Str×aj)} {pe:List (Str×Str)} (hp:Fa p) (ho:IU p) (hN:1000000≤N) (h:RelA p A g st nP pe) (b:KG A) (hpp:A.pp.Pairwise (fun a b=>a.1<b.1))
include hp hN h b hpp ho
theorem Xc {x:GEvent} (h0:0≤x.Op) (h12:x.Op<12) (hh:Du x.Op≠none→mg p x.Name=true):∃ o,CJ N g st nP pe (wo x.Op).LH x=some o∧Jd p g (PW p A x) o:=by
  unfold CJ PW
  rcases KQ h0 h12 with e | e | e | e | e | e | e | e | e | e | e | e
  · have hd : (wo x.Op).LH = some 95 := by rw [e]; rfl
    rw [hd];simp only [e,Option.some.injEq,Nat.reduceEqDiff,decide_false,decide_true,lM,lN,if_false,Int.reduceEq]
    exact ⟨_,rfl,h,rfl⟩
  · have hd : (wo x.Op).LH = some 96 := by rw [e]; rfl
    have hx:=hh (by rw [e];decide)
    rw [hd];simp only [e,Option.some.injEq,Nat.reduceEqDiff,decide_false,decide_true,lM,lN,if_false,Int.reduceEq]
    exact Qd hN h hx
  · have hd : (wo x.Op).LH = some 97 := by rw [e]; rfl
    have hx:=hh (by rw [e];decide)
    rw [hd];simp only [e,Option.some.injEq,Nat.reduceEqDiff,decide_false,decide_true,lM,lN,if_false,Int.reduceEq]
    exact MS hp ho hN h b hpp hx
  · have hd : (wo x.Op).LH = some 98 := by rw [e]; rfl
    have hx:=hh (by rw [e];decide)
    rw [hd];simp only [e,Option.some.injEq,Nat.reduceEqDiff,decide_false,decide_true,lM,lN,if_false,Int.reduceEq]
    exact KP h hx
  · have hd : (wo x.Op).LH = some 97 := by rw [e]; rfl
    have hx:=hh (by rw [e];decide)
    rw [hd];simp only [e,Option.some.injEq,Nat.reduceEqDiff,decide_false,decide_true,lM,lN,if_false,Int.reduceEq]
    exact MS hp ho hN h b hpp hx
  · have hd : (wo x.Op).LH = some 99 := by rw [e]; rfl
    have hx:=hh (by rw [e];decide)
    rw [hd];simp only [e,Option.some.injEq,Nat.reduceEqDiff,decide_false,decide_true,lM,lN,if_false,Int.reduceEq]
    exact RH hp hN h b hpp hx
  · have hd : (wo x.Op).LH = some 100 := by rw [e]; rfl
    have hx:=hh (by rw [e];decide)
    rw [hd];simp only [e,Option.some.injEq,Nat.reduceEqDiff,decide_false,decide_true,lM,lN,if_false,Int.reduceEq]
    exact KP h hx
  · have hd : (wo x.Op).LH = some 101 := by rw [e]; rfl
    rw [hd];simp only [e,Option.some.injEq,Nat.reduceEqDiff,decide_false,decide_true,lM,lN,if_false,Int.reduceEq]
    exact Yd hp hN h
  · have hd : (wo x.Op).LH = some 102 := by rw [e]; rfl
    rw [hd];simp only [e,Option.some.injEq,Nat.reduceEqDiff,decide_false,decide_true,lM,lN,if_false,Int.reduceEq]
    exact UD hp hN h
  · have hd : (wo x.Op).LH = some 103 := by rw [e]; rfl
    rw [hd];simp only [e,Option.some.injEq,Nat.reduceEqDiff,decide_false,decide_true,lM,lN,if_false,Int.reduceEq]
    exact UE hN h hpp
  · have hd : (wo x.Op).LH = some 104 := by rw [e]; rfl
    rw [hd];simp only [e,Option.some.injEq,Nat.reduceEqDiff,decide_false,decide_true,lM,lN,if_false,Int.reduceEq]
    exact UF hp ho hN h
  · have hd : (wo x.Op).LH = some 105 := by rw [e]; rfl
    have hx:=hh (by rw [e];decide)
    rw [hd];simp only [e,Option.some.injEq,Nat.reduceEqDiff,decide_false,decide_true,lM,lN,if_false,Int.reduceEq]
    exact RG hN h hx
end
theorem RelA.ZW {p:GPermitPlan} {A:AO} {g:ah} {st:List (Str×af)} {nP:List (Str×aj)} {pe:List (Str×Str)} (h:RelA p A g st nP pe) (t:Int):RelB p { A with now:=t } ({ g with now:=t }:ah) nP:=⟨h.b.plan,rfl,h.b.KD,h.b.KF⟩
def Iw (p:GPermitPlan) (A:AO) (x:GEvent) (G:AO×List Str×Int):AO×List Str×Int:=bif decide (G.2.2=0) then (({ iJ p G.1 with done:=A.done ++ [x] }:AO),[],0) else G
theorem Qg {p:GPermitPlan} {A S:AO} {x:GEvent} {e:Int} {l:List Str} (he:e≠0):Iw p A x (wO S e l)=wO S e l:=by
 unfold Iw wO
 simp only []
 rw [dF he];rfl
theorem Qh {p:GPermitPlan} {A:AO} {x:GEvent} {G:AO×List Str×Int} (he:G.2.2≠0):Iw p A x G=G:=by
 unfold Iw;rw [dF he];rfl
theorem Ti {p:GPermitPlan} {A:AO} {x:GEvent} {G:AO×List Str×Int} (he:G.2.2=0):Iw p A x G=(({ iJ p G.1 with done:=A.done ++ [x] }:AO),[],0):=by
 unfold Iw;rw [dT he];rfl
theorem Do_eq {N:Nat} {p:GPermitPlan} {A:AO} {g:ah} {st:List (Str×af)} {nP:List (Str×aj)} {pe:List (Str×Str)} (hp:Fa p) (ho:IU p) (hN:1000000≤N) (h:RelA p A g st nP pe) (hi:Lp p A) (hd:A.done.length<999999) (x:GEvent) :
    ∃ g' st' E8 Qi,kR N g st nP pe x=some (g',st',E8,Qi,(Qj p A x).2.1,(Qj p A x).2.2)∧RelA p (Qj p A x).1 g' st' E8 Qi:=by
  have hlim:lim ≥ 10000000:=by decide
  have hm:=hp.m
  obtain ⟨gp,gn,gd⟩:=g
  have hg:p=gp:=h.b.plan.symm
  have hgn:gn=A.now:=h.b.now
  have hgd:gd=A.done:=h.done
  subst hg hgn hgd
  unfold kR Qj
  rw [Xa,bS]
  have hlen:(Om.length:Int)=12:=rfl
  rw [hlen,bH,wS]
  by_cases hr:x.Op<0∨12≤x.Op∨x.At<0∨1000000<x.At
  · have hr' : (decide (x.Op < 0) || decide (12 ≤ x.Op) || decide (x.At < 0) || decide (1000000 < x.At)) = true := by simpa [or_assoc] using hr
    rw [hr',lN]
    refine ⟨⟨p,A.now,A.done⟩,st,nP,pe,?_,h⟩
    unfold sZ
    rw [wS,wE]
    cases hc:(decide (x.Op<0)||decide (12≤x.Op)) with
    | true=>rfl
    | false =>
      simp only [Bool.not_false,lN,bS,Bool.false_or]
      have:(decide (0≤x.At)&&decide (x.At≤1000000))=false:=by
        rw [Bool.or_eq_false_iff,decide_eq_false_iff_not,decide_eq_false_iff_not] at hc
        rw [Bool.and_eq_false_iff,decide_eq_false_iff_not,decide_eq_false_iff_not];omega
      rw [this];rfl
  · have hr' : (decide (x.Op < 0) || decide (12 ≤ x.Op) || decide (x.At < 0) || decide (1000000 < x.At)) = false := by simp; omega
    rw [hr',lM]
    have hop:(decide (x.Op<0)||decide (12≤x.Op))=false:=by simp;omega
    have htm:sZ N x.At=some true:=by
      unfold sZ;rw [wS,wE,dT (by omega),dT (by omega)];rfl
    rw [hop,htm]
    simp only [Bool.not_false,lN,bS,Bool.not_true,Bool.or_self,lM,bH]
    by_cases hlt:x.At<A.now
    · rw [dT hlt];exact ⟨⟨p,A.now,A.done⟩,st,nP,pe,rfl,h⟩
    rw [dF hlt,lM,lM]
    have hw0:=hi.w
    have hw:WA p A.done { A with now:=x.At }:=hw0.le (fun s=>.inl rfl) (fun _=>rfl) ⟨by show A.now≤x.At;omega,by show x.At≤1000000;omega⟩ hw0.pp (fun s t e=>.inl e) hw0.pl
    have hb0:KG { A with now:=x.At }:=hw.bd (by omega)
    obtain ⟨st1,e1,r1⟩:=Ip (pe:=pe) hp ho hN (h.ZW x.At) h.st hb0
    rw [e1,bS,Xb (by omega) (by omega),bS,Qe (by omega) (by omega)]
    have hS:RelA p (iJ p { A with now:=x.At }) (⟨p,x.At,A.done⟩:ah) st1 nP pe:=⟨⟨rfl,rfl,h.b.KD,h.b.KF⟩,r1,h.pe,h.done⟩
    have hbS:KG (iJ p { A with now:=x.At }):=hb0.settle
    have hiS:Lp p (iJ p { A with now:=x.At }):=Dt ho hw
    have hact:∀ (G:AO×List Str×Int),(∃ o,CJ N (⟨p,x.At,A.done⟩:ah) st1 nP pe (wo x.Op).LH x=some o∧Jd p (⟨p,x.At,A.done⟩:ah) G o)→StepA p (iJ p { A with now:=x.At }) x G→∃ g' st' E8 Qi,((CJ N (⟨p,x.At,A.done⟩:ah) st1 nP pe (wo x.Op).LH x).bind fun v14=>bif (aN .neq v14.2.2.2.e 0) then (some ((⟨p,x.At,A.done⟩:ah),v14.1,v14.2.1,v14.2.2.1,v14.2.2.2.names,v14.2.2.2.e)) else ((jH N (⟨p,x.At,A.done⟩:ah) v14.1 v14.2.1 v14.2.2.1).bind fun v15=>(app A.done [x]).bind fun v16=>some ((⟨p,x.At,v16⟩:ah),v15,v14.2.1,v14.2.2.1,([]:List Str),(0:Int))))=some (g',st',E8,Qi,(Iw p A x G).2.1,(Iw p A x G).2.2)∧RelA p (Iw p A x G).1 g' st' E8 Qi:=by
      rintro G ⟨⟨a1,a2,a3,a4⟩,ho1,ho2⟩ hstep
      rw [ho1,bS]
      have hrel:=ho2.rel
      have href:a4=⟨G.2.1,G.2.2⟩:=ho2.ref
      simp only [] at hrel
      subst href
      simp only [rJ]
      by_cases h0:G.2.2=0
      · rw [dT h0,Ti h0]
        simp only [Bool.not_true,lM]
        have hw2:=hstep.2.1 _ hiS.w
        have hdn:(iJ p { A with now:=x.At }).done=A.done:=rfl
        have hb2:KG G.1:=hw2.bd (by rw [List.length_append,hdn];simp only [List.length_singleton];omega)
        obtain ⟨st2,e2,r2⟩:=Ip (pe:=a3) hp ho hN hrel.b hrel.st hb2
        rw [e2,bS,DU (by simp only [List.length_singleton];omega),bS]
        exact ⟨_,_,_,_,rfl,⟨hrel.b.plan,hrel.b.now,hrel.b.KD,hrel.b.KF⟩,r2,hrel.pe,rfl⟩
      · rw [dF h0,Qh h0]
        exact ⟨_,_,_,_,rfl,hrel⟩
    have Yz:=fun hh=>Xc hp ho hN hS hbS hiS.w.pp (x:=x) (by omega) (by omega) hh
    have hstep:=KA ho (A:=iJ p { A with now:=x.At }) (x:=x) (by omega) (by omega)
    show ∃ g' st' E8 Qi,_=some (g',st',E8,Qi,(Iw p A x (Ls p (iJ p { A with now:=x.At }) x)).2.1,(Iw p A x (Ls p (iJ p { A with now:=x.At }) x)).2.2)∧RelA p (Iw p A x (Ls p (iJ p { A with now:=x.At }) x)).1 g' st' E8 Qi
    unfold Ls at hstep ⊢
    cases hs:Du x.Op with
    | none =>
      rw [hs] at hstep
      simp only [Option.getD_none,List.isEmpty_nil,Bool.not_true,lM,bS,Sum.elim_inl]
      exact hact _ (Yz fun hn=>absurd hs hn) hstep
    | some l =>
      rw [hs] at hstep
      obtain ⟨hl1,hl2⟩:=UG hs
      simp only [Option.getD_some,hl1,Bool.not_false,lN] at hstep ⊢
      rw [Ol hp hN,bS]
      simp only []
      cases hh:mg p x.Name with
      | false=>simp only [Bool.not_false,lN];rw [Qg (by decide)];exact ⟨_,_,_,_,rfl,hS⟩
      | true =>
        rw [hh] at hstep
        simp only [Bool.not_true,lM] at hstep ⊢
        rw [F9 hN r1 hh hl2,bS]
        cases hc:l.contains (stA (iJ p { A with now:=x.At }) x.Name) with
        | false=>simp only [Bool.not_false,lN];rw [Qg (by decide)];exact ⟨_,_,_,_,rfl,hS⟩
        | true =>
          rw [hc] at hstep
          simp only [Bool.not_true,lM,bS,Sum.elim_inl] at hstep ⊢
          exact hact _ (Yz fun _=>hh) hstep
end Go.KB
namespace Go.KB
set_option linter.unusedVariables false
theorem ZI {N:Nat} (p:GPermitPlan) (hN:1000000≤N):xw N p=some false∨(xw N p=some true∧Fa p∧qm p=0∧p.bK.length≤8∧p.ax.length≤8∧p.dh.length≤12):=by
 unfold xw
 rcases WR p hN with hg | ⟨hg,hp,_⟩
 ·rw [hg];exact .inl rfl
 ·rw [hg,bS,Bool.not_false,lN,LD hp hN,bS,Bool.true_and]
  simp only [rM,wE]
  by_cases h:qm p=0∧p.bK.length≤8∧p.ax.length≤8∧p.dh.length≤12
  ·refine .inr ⟨?_,hp,h⟩
   rw [dT h.1,dT (by omega),dT (by omega),dT (by omega)];rfl
  ·refine .inl ?_
   congr 1
   rw [Bool.eq_false_iff]
   intro hx
   simp only [Bool.and_eq_true,decide_eq_true_eq] at hx
   exact h (by omega)
section
variable {N:Nat} {p:GPermitPlan} {A:AO} {g:ah} {st:List (Str×af)} {nP:List (Str×aj)} {pe:List (Str×Str)}
theorem XU (hp:Fa p) (hN:1000000≤N) (h:RelA p A g st nP pe):mD N g st nP pe=some (lI p A fun _=>true):=by
 unfold mD
 rw [Jo hp hN h (φ:=fun y0=>kY N y0) (so:=fun _=>true) (fun _ _=>rfl)];rfl
end
theorem do_done {p:GPermitPlan} (ho:IU p) {A:AO} {x:GEvent}:(Qj p A x).1.done.length≤A.done.length+1:=by
  unfold Qj
  by_cases hr:x.Op<0∨12≤x.Op∨x.At<0∨1000000<x.At
  · have hr' : (decide (x.Op < 0) || decide (12 ≤ x.Op) || decide (x.At < 0) || decide (1000000 < x.At)) = true := by simpa [or_assoc] using hr
    rw [hr'];exact Nat.le_succ _
  · have hr' : (decide (x.Op < 0) || decide (12 ≤ x.Op) || decide (x.At < 0) || decide (1000000 < x.At)) = false := by simp; omega
    rw [hr',lM]
    cases decide (x.At<A.now) with
    | true=>exact Nat.le_succ _
    | false =>
      obtain ⟨_,_,_,s4,_⟩:=KA ho (A:=iJ p { A with now:=x.At }) (x:=x) (by omega) (by omega)
      show (Iw p A x (Ls p (iJ p { A with now:=x.At }) x)).1.done.length≤_
      by_cases h0:(Ls p (iJ p { A with now:=x.At }) x).2.2=0
      · rw [Ti h0];show (A.done ++ [x]).length≤_;simp
      · rw [Qh h0,s4];exact Nat.le_succ _
structure Rj (p:GPermitPlan) (i:Nat) (A:AO) (g:ah) (st:List (Str×af)) (nP:List (Str×aj)) (pe:List (Str×Str)):Prop where
 rel:RelA p A g st nP pe
 inv:Lp p A
 len:A.done.length≤i
theorem Rj.bd {p:GPermitPlan} {i:Nat} {A:AO} {g:ah} {st:List (Str×af)} {nP:List (Str×aj)} {pe:List (Str×Str)} (h:Rj p i A g st nP pe) (hi:i<1000000):KG A:=h.inv.w.bd (Nat.lt_of_le_of_lt h.len hi)
theorem XR {N:Nat} {p:GPermitPlan} (hp:Fa p) (ho:qm p=0) (hN:1000000≤N):∃ st,rC N p=some (some ((⟨p,0,[]⟩:ah),st,[],[]),0)∧Rj p 0 (XV p) (⟨p,0,[]⟩:ah) st [] []:=by
 obtain ⟨st,h1,h2⟩:=ZT hp ho hN
 exact ⟨st,h1,h2,X5 (okP ho),Nat.le_refl _⟩
theorem ZK {N:Nat} {p:GPermitPlan} {i:Nat} {A:AO} {g:ah} {st:List (Str×af)} {nP:List (Str×aj)} {pe:List (Str×Str)} (hp:Fa p) (ho:IU p) (hN:1000000≤N) (h:Rj p i A g st nP pe) (hi:i<1000) (x:GEvent) :
  ∃ g' st' E8 Qi,kR N g st nP pe x=some (g',st',E8,Qi,(Qj p A x).2.1,(Qj p A x).2.2)∧Rj p (i+1) (Qj p A x).1 g' st' E8 Qi:=by
 have hl:=h.len
 obtain ⟨g',st',E8,Qi,h1,h2⟩:=Do_eq hp ho hN h.rel h.inv (by omega) x
 exact ⟨g',st',E8,Qi,h1,h2,(ZP ho h.inv).1,Nat.le_trans (do_done ho) (by omega)⟩
end Go.KB
