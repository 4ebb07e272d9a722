/- Plain laws of chapter 7: why a permit is not opened. Plain laws of chapter 7: the people in the spaces, in the order of their names. Plain laws of chapter 7: what the program's office does. Plain laws of chapter 7: each event in the program's office. Plain laws of chapter 7: the program's office does what the office by names does. Plain laws of chapter 7: what the statements share. No condition. -/
import Derived.Test.YtekbfkfjhgfieaaGreatPZn
import Derived.Test.YtekbfkfjhgfieaaGreatPAwk
namespace Go.KB
set_option linter.unusedVariables false
def Tm {S R:Type} (Y:S→R→Option (S×Bool)):List R→S→Option S
 | [],s=>some s
 | r :: l,s=>(Y s r).bind fun v=>bif v.2 then Tm Y l v.1 else some v.1
theorem yloop {S:Type} {N:Nat} {Y:S→bM→Option (S×Bool)} {l:List bM} {s:S} (hl:l.length<1000) (hN:1000000≤N):((dU (iq N Y l) N (0,s)).bind fun QU=>Sum.elim (fun l17=>some l17) (fun VS=>some VS) QU)=Tm Y (l.filter fun r=>!r.Names.isEmpty) s:=by
 have key:∀ k i s,i+k=l.length→∀ M,k<M→((dU (iq N Y l) M ((i:Int),s)).bind fun QU=>Sum.elim (fun l17=>some l17) (fun VS=>some VS) QU)=Tm Y ((l.drop i).filter fun r=>!r.Names.isEmpty) s:=by
  intro k
  induction k with
  | zero =>
   intro i s hi M hM
   obtain ⟨M,rfl⟩:∃ m,M=m+1:=⟨M - 1,by omega⟩
   have:i=l.length:=by omega
   subst this
   have e:iq N Y l ((l.length:Int),s)=some (.inr (Sum.inl s)):=by
    unfold iq
    simp only []
    rw [bQ,dF (by omega),cond_false]
   simp only [dU,e,List.drop_length];rfl
  | succ k ih =>
   intro i s hi M hM
   obtain ⟨M,rfl⟩:∃ m,M=m+1:=⟨M - 1,by omega⟩
   have hil:i<l.length:=by omega
   have e:iq N Y l ((i:Int),s)=bif !l[i].Names.isEmpty then (Y s l[i]).bind (fun v=>bif v.2 then some (.inl (((i+1:Nat):Int),v.1)) else some (.inr (.inr v.1))) else some (.inl (((i+1:Nat):Int),s)):=by
    unfold iq
    simp only []
    rw [bQ,dT (by omega),cond_true,ji hil,bS,gt0,qw (by omega)]
    cases l[i].Names.isEmpty with
    | true=>rfl
    | false =>
     simp only [Bool.not_false,cond_true,Bool.true_and]
     congr 1
     funext v
     cases v.2 <;> rfl
   simp only [dU,e]
   rw [drop_at hil,List.filter_cons]
   cases hn:l[i].Names.isEmpty with
   | true=>simp only [Bool.not_true,cond_false];exact ih (i+1) s (by omega) M (by omega)
   | false =>
    simp only [Bool.not_false,cond_true,if_true,Tm]
    cases hy:Y s l[i] with
    | none=>rfl
    | some v =>
     simp only [bS]
     cases hv:v.2 with
     | false=>rfl
     | true=>simp only [cond_true];exact ih (i+1) v.1 (by omega) M (by omega)
 simpa using key l.length 0 s (by omega) N (by omega)
theorem Io {p:GPermitPlan} {A:AO} {N:Nat} {f:(List Str×Int)→Option ((List Str×Int) ⊕ List Str)} {so:aG→Bool} (hp:EZ p) (hN:1000000≤N) (hf:∀ (i:Nat) (hi:i<p.aj.length) (acc:List Str),acc.length<1000000→f (acc,(i:Int))=bif decide (stA A p.aj[i].Name=2)&&so p.aj[i] then ((app acc [p.aj[i].Name]).bind fun v=>some (.inl (v,((i+1:Nat):Int)))) else some (.inl (acc,((i+1:Nat):Int)))) (he:∀ acc,f (acc,(p.aj.length:Int))=some (.inr acc)):dU f N ([],0)=some (mZ p A so):=by
 have hm:=hp.m
 have hlim:lim ≥ 10000000:=by decide
 rw [CW (f:=f) p.aj [] (fun x=>decide (stA A x.Name=2)&&so x) (fun x=>x.Name) (fun a i=>(a,i)) (fun a=>a) (fun i hi acc hacc=>?_) he (by omega)]
 ·rfl
 ·simp only [List.length_nil] at hacc
  rw [hf i hi acc (by omega)]
  cases (decide (stA A p.aj[i].Name=2)&&so p.aj[i]) with
  | false=>rfl
  | true=>simp only [cond_true];rw [zW (by simp only [List.length_singleton];omega)];rfl
section
variable {N:Nat} {p:GPermitPlan} {A:AO} {g:ai} {st:List (Str×ah)} {qP:List (Str×ay)} {pe:List (Str×Str)} (hp:EZ p) (ho:DN p) (hN:1000000≤N) (h:RelA p A g st qP pe) (b:G6 A)
include hp hN h
theorem Y4 {x:aG}:jD N g st qP pe x=some (mZ p A fun y=>wX p y x):=by
 have hm:=hp.m
 unfold jD
 rw [Io (f:=iC N g st qP pe x) (A:=A) (so:=fun y=>wX p y x) hp hN (fun i hi acc hacc=>?_) (fun acc=>?_)]
 ·rfl
 ·unfold iC
  simp only []
  rw [h.b.plan,bQ,dT (by omega),cond_true,ji hi,bS,Jl hN h.st (Ik hi) (by decide),bS,qw (by omega)]
  have hc:([2]:List Int).contains (stA A p.aj[i].Name)=decide (stA A p.aj[i].Name=2):=by rw [Bool.eq_iff_iff];simp
  have hq:nJ N g st qP pe p.aj[i] x=some (wX p p.aj[i] x):=by
   unfold nJ
   rw [h.b.plan,Td hp hN];rfl
  rw [hc,hq]
  cases decide (stA A p.aj[i].Name=2) with
  | false=>rfl
  | true=>rfl
 ·unfold iC
  simp only []
  rw [h.b.plan,bQ,dF (by omega),cond_false]
end
end Go.KB
namespace Go.KB
set_option linter.unusedVariables false
theorem WS (a b c:Str) (h1:a≤b) (h2:b≤c):a≤c:=List.le_trans h1 h2
theorem WT (a b:Str):a≤b∨b≤a:=List.le_total a b
theorem QN (a b:Str) (h1:a≤b) (h2:b≤a):a=b:=Std.Antisymm.antisymm (r:=(· ≤ ·)) a b h1 h2
theorem slt_le {a b:Str} (h:a<b):a≤b:=List.le_of_lt h
theorem QO {l m:List Str} (hp:l.Perm m) (hs:m.Pairwise (fun a b=>a<b)):FT l=m:=by
 unfold FT
 refine List.Perm.eq_of_pairwise (le:=fun a b:Str=>a≤b) (fun a b _ _ h1 h2=>QN a b h1 h2) ?_ (hs.imp fun h=>slt_le h) ((List.mergeSort_perm _ _).trans hp)
 have:=List.pairwise_mergeSort (le:=fun x y:Str=>decide (x≤y)) (fun a b c h1 h2=>decide_eq_true (WS a b c (of_decide_eq_true h1) (of_decide_eq_true h2))) (fun a b=>by
  rcases WT a b with h | h <;> simp [h]) l
 exact this.imp fun h=>of_decide_eq_true h
theorem WU {f:List Str→(Str×Str)→Option (List Str)} {so:Str→Bool} (π:List (Str×Str)) (hf:∀ acc q,q ∈ π→acc.length<1000000→f acc q=some (bif so q.2 then acc ++ [q.1] else acc)):∀ acc,acc.length+π.length<1000000→KJ f π acc=some (acc ++ (π.filter fun q=>so q.2).map fun q=>q.1):=by
 induction π with
 | nil=>intro acc _;simp [KJ]
 | cons q r ih =>
  intro acc h
  simp only [List.length_cons] at h
  unfold KJ
  rw [hf acc q List.mem_cons_self (by omega),bS,ih (fun acc q hq=>hf acc q (List.mem_cons_of_mem _ hq)) _ (by cases so q.2 <;> simp <;> omega),List.filter_cons]
  cases so q.2 <;> simp
theorem SN {A:AO} {so:Str→Bool}:(yg A so).length≤A.pp.length:=by
 unfold yg;rw [List.length_map];exact List.length_filter_le _ _
theorem Tn {A : AO} {pe : List (Str × Str)} {f : List Str → (Str × Str) → Option (List Str)} {so : Str → Bool} (hpe : pe.Perm A.pp) (hpp : A.pp.Pairwise (fun a b => a.1 < b.1)) (hl : A.pp.length < 1000000) (hf : ∀ acc q, q ∈ pe → acc.length < 1000000 → f acc q = some (bif so q.2 then acc ++ [q.1] else acc)) :
    (Jd pe fun q=>(KJ f q []).bind fun s=>(Py s).bind fun v=>some v)=some (yg A so):=by
  refine V9 fun π hπ=>?_
  have hp:π.Perm A.pp:=hπ.trans hpe
  have hlen:π.length=A.pp.length:=hp.length_eq
  rw [WU (so:=so) π (fun acc q hq h=>hf acc q (hπ.mem_iff.1 hq) h) [] (by simp;omega),bS,List.nil_append]
  have hs:Py ((π.filter fun q=>so q.2).map fun q=>q.1)=some (yg A so):=by
    unfold Py
    have h1:((π.filter fun q=>so q.2).map fun q=>q.1).length≤1000000:=by
      rw [List.length_map];have:=List.length_filter_le (fun q:Str×Str=>so q.2) π;omega
    rw [Nat.ble_eq_true_of_le h1,cond_true]
    congr 1
    refine QO ((hp.filter _).map _) ?_
    unfold yg
    rw [List.pairwise_map]
    exact List.Pairwise.filter _ hpp
  rw [hs];rfl
end Go.KB
namespace Go.KB
set_option linter.unusedVariables false
theorem ne0 {α:Type} {l:List α}:aF .eql (List.length l:Int) 0=l.isEmpty:=by
 rw [jr]
 cases l with
 | nil=>rfl
 | cons x r=>simp;omega
def Y5 (R:AO×List Str×Int) (a b:List (Str×ah)):List (Str×ah)×au:=(bif decide (R.2.2=0) then a else b,⟨R.2.1,R.2.2⟩)
theorem Tq {A:AO} {e:Int} {l:List Str} {a b:List (Str×ah)} (he:e≠0):Y5 (vI A e l) a b=(b,⟨l,e⟩):=by
 show ((bif decide (e=0) then a else b),(⟨l,e⟩:au))=_
 rw [dF he];rfl
theorem UY {l:List bM} {g:au→bM→Option (au×Option Nat)} (hg:∀ s r,g s r=some (⟨r.Names,r.Err⟩,some 0)):Tm (yl g 1) l ((⟨[],0⟩:au),none)=some (match l with | []=>(⟨[],0⟩,none) | r :: _=>(⟨r.Names,r.Err⟩,some 0)):=by
 cases l with
 | nil=>rfl
 | cons r l =>
  unfold Tm yl
  simp only [hg]
  rfl
theorem QI {p:GPermitPlan} {A:AO} {x:aG}:∀ r ∈ EU p A x,r.Err≠0:=by
 intro r hr
 unfold EU at hr
 rcases List.mem_append.1 hr with hr | hr
 ·cases hd:decide (A.now<x.From) with
  | false=>rw [hd] at hr;cases hr
  | true=>rw [hd,cond_true,List.mem_singleton] at hr;subst hr;decide
 ·have hr:=(List.mem_filter.1 hr).1
  rcases List.mem_append.1 hr with hr | hr
  ·simp only [List.mem_cons,List.not_mem_nil,or_false] at hr
   rcases hr with rfl | rfl | rfl <;> simp
  ·cases hd:decide (x.Kind=3) with
   | false=>rw [hd] at hr;cases hr
   | true=>rw [hd,cond_true,List.mem_singleton] at hr;subst hr;simp
section
variable {N:Nat} {p:GPermitPlan} {A:AO} {g:ai} {st:List (Str×ah)} {qP:List (Str×ay)} {pe:List (Str×Str)} (hp:EZ p) (ho:DN p) (hN:1000000≤N) (h:RelA p A g st qP pe) (b:G6 A) (hpp:A.pp.Pairwise (fun a b=>a.1<b.1))
include hp hN h
theorem QR {φ:aG→Option Bool} {so:aG→Bool} (hφ:∀ y ∈ p.aj,φ y=some (so y)):jo N g st qP pe φ=some (mZ p A so):=by
 have hm:=hp.m
 unfold jo
 rw [Io (f:=nM N g st qP pe φ) (A:=A) (so:=so) hp hN (fun i hi acc hacc=>?_) (fun acc=>?_)]
 ·rfl
 ·unfold nM
  simp only []
  rw [h.b.plan,bQ,dT (by omega),cond_true,ji hi,bS,Jl hN h.st (Ik hi) (by decide),bS,qw (by omega)]
  have hc:([2]:List Int).contains (stA A p.aj[i].Name)=decide (stA A p.aj[i].Name=2):=by rw [Bool.eq_iff_iff];simp
  rw [hc,hφ _ (List.getElem_mem hi)]
  cases decide (stA A p.aj[i].Name=2) <;> rfl
 ·unfold nM
  simp only []
  rw [h.b.plan,bQ,dF (by omega),cond_false]
theorem WV {s:Str}:qg N g st qP pe s=some (wG p A s):=by
 unfold qg wG
 rw [QR hp hN h (so:=fun y=>decide (y.Kind=1)&&decide (y.Space=s)) (fun y _=>by unfold mG;rw [jr,qM]),bS,gt0]
include b hpp
omit hp hN in
theorem UZ {φ:Str→Option Bool} {so:Str→Bool} (hφ:∀ s,φ s=some (so s)):l9 N g st qP pe φ=some (yg A so):=by
 have hlim:lim ≥ 10000000:=by decide
 unfold l9
 refine Tn (f:=nR N φ) h.pe hpp b.pl fun acc q _ hacc=>?_
 unfold nR
 rw [hφ,bS]
 cases so q.2 with
 | false=>rfl
 | true=>rw [cond_true,cond_true,zW (by simp only [List.length_singleton];omega)];rfl
theorem Tt {x:aG}:jf N g st qP pe x=some (yg A fun s=>decide (kJ p s x.Space≤1)):=by
 have hlim:lim ≥ 10000000:=by decide
 unfold jf
 refine Tn (f:=iK N g st qP x) (so:=fun s=>decide (kJ p s x.Space≤1)) h.pe hpp b.pl fun acc q _ hacc=>?_
 unfold iK oh
 rw [h.b.plan,JQ hp hN,bS,bS,vG]
 cases decide (kJ p q.2 x.Space≤1) with
 | false=>rfl
 | true=>rw [cond_true,cond_true,zW (by simp only [List.length_singleton];omega)];rfl
include ho
theorem U0 {S:Type} {Y:S→bM→Option (S×Bool)} {y0:S} {x:aG} (hx:x ∈ p.aj):lJ N Y y0 g st qP pe x=Tm Y (EU p A x) y0:=by
 have hlim:lim ≥ 10000000:=by decide
 unfold lJ EU
 rw [bQ,h.b.now,LM hp hN h.st (hp.l _ hx) (fun l hl=>(ho.lk _ hx l hl).1),Y4 hp hN h,Ox hp hN h.b b,Tt hp hN h b hpp,jr]
 simp only [bS]
 have hl:((bif decide (x.Kind=3) then ((app [(⟨18,DZ A x⟩:bM),(⟨20,mZ p A fun y=>wX p y x⟩:bM),(⟨21,zS p A x⟩:bM)] [(⟨17,yg A fun s=>decide (kJ p s x.Space≤1)⟩:bM)]).bind fun v6=>some v6) else (some [(⟨18,DZ A x⟩:bM),(⟨20,mZ p A fun y=>wX p y x⟩:bM),(⟨21,zS p A x⟩:bM)])):Option (List bM))=some ([(⟨18,DZ A x⟩:bM),(⟨20,mZ p A (fun y=>wX p y x)⟩:bM),(⟨21,zS p A x⟩:bM)] ++ (bif decide (x.Kind=3) then [(⟨17,yg A (fun s=>decide (kJ p s x.Space≤1))⟩:bM)] else [])):=by
  cases decide (x.Kind=3) with
  | false=>rfl
  | true=>rw [cond_true,zW (by simp only [List.length_cons,List.length_nil];omega)];rfl
 rw [hl]
 simp only [bS]
 have hlen:([(⟨18,DZ A x⟩:bM),(⟨20,mZ p A (fun y=>wX p y x)⟩:bM),(⟨21,zS p A x⟩:bM)] ++ (bif decide (x.Kind=3) then [(⟨17,yg A (fun s=>decide (kJ p s x.Space≤1))⟩:bM)] else [])).length<1000:=by
  cases decide (x.Kind=3) <;> simp
 simp only [yloop hlen hN]
 cases hd:decide (A.now<x.From) with
 | false=>simp only [cond_false,bS,Bool.false_and,List.nil_append]
 | true =>
  simp only [cond_true,Bool.true_and,List.singleton_append,Tm]
  congr 1
  funext v
  cases v.2 <;> rfl
theorem Y6 {x:GEvent} (hh:lY p x.Name=true):oG N g st qP pe x=some (Y5 (zx p A x) (rE st x.Name { A.es x.Name with state:=2 }) st):=by
 have hm:=hp.m
 unfold oG zx
 rw [DL (by omega),bS,qM,h.st.get _ hh]
 cases lm x.Person with
 | false=>rfl
 | true =>
  cases decide (x.Person=(A.es x.Name).yY) with
  | true=>rfl
  | false =>
   simp only [Bool.not_true,cond_false]
   rw [h.b.plan,Ef (by omega) hN,bS]
   unfold rM
   rw [bS]
   show ((lJ N (yl (jm N) 1) ((⟨[],0⟩:au),none) g st qP pe (rF p x.Name)).bind _)=_
   rw [U0 hp ho hN h b hpp (zC hh).1,UY (g:=jm N) (fun s r=>rfl),bS]
   have hw:=QI (p:=p) (A:=A) (x:=rF p x.Name)
   cases hwy:EU p A (rF p x.Name) with
   | nil =>
    simp only [KF]
    unfold fH
    rw [h.st.get _ hh];rfl
   | cons r l =>
    have h0:r.Err≠0:=hw r (by rw [hwy];exact List.mem_cons_self)
    show (bif decide True then some (st,(⟨r.Names,r.Err⟩:au)) else none)=some (Y5 (vI A r.Err r.Names) _ st)
    rw [Tq h0];rfl
omit ho in
theorem WW {x:GEvent} (hh:lY p x.Name=true):nV N g st qP pe x=some (Y5 (Aq p A x) (rE st x.Name { A.es x.Name with state:=4 }) st):=by
  have hm:=hp.m
  have hs:=hp.s
  obtain ⟨hy,hyn⟩:=zC hh
  have hb:fH N g st qP pe x.Name 4=some (rE st x.Name { A.es x.Name with state:=4 }):=by
    unfold fH;rw [h.st.get _ hh]
  unfold nV Aq
  rw [h.b.plan,Ef (by omega) hN,bS]
  show ((jg N p (rF p x.Name).Space).bind fun v2=>_)=_
  rw [zK (by omega) hN,bS]
  simp only []
  have e1:jo N g st qP pe (fun y0=>jS N y0 (rF p x.Name))=some (mZ p A (fun z=>DR z.Locks (rF p x.Name).Name)):=QR hp hN h fun y hy=>by
    unfold jS;rw [OA (Nat.lt_trans (hp.l y hy) (by decide)) hN];rfl
  have e2:jo N g st qP pe (fun y0=>jT N y0 (rF p x.Name))=some (mZ p A (fun z=>decide (z.Kind=1)&&decide (z.Space=(rF p x.Name).Space) && !decide (z.Name=(rF p x.Name).Name))):=QR hp hN h fun y hy=>by
    unfold jT;rw [jr,qM,SY]
  have e3:l9 N g st qP pe (fun y0=>jU N y0 (rF p x.Name))=some (yg A (fun s=>decide (s=(rF p x.Name).Space))):=UZ h b hpp fun s=>by
    unfold jU;rw [qM]
  have e4:fO N g st qP pe (rF p x.Name).Name [2]=some (decide (stA A (rF p x.Name).Name=2)):=by
    rw [Jl hN h.st (by rw [hyn];exact hh) (by decide)]
    congr 1;rw [Bool.eq_iff_iff];simp
  show (((bif aF .eql (rF p x.Name).Kind 5 then ((jo N g st qP pe (fun y0=>jS N y0 (rF p x.Name))).bind fun v3=>bif (aF .gtr (List.length v3:Int) 0) then ((jZ N 20 v3).bind fun v4=>some (Sum.inr v4)) else (some (Sum.inl (⟨[],0⟩:au)))) else ((bif aF .eql (rF p x.Name).Kind 1 then (fO N g st qP pe (rF p x.Name).Name [2]) else some false).bind fun v6=>bif ((aF .eql (rF p x.Name).Kind 1&&v6)&&(yx p (rF p x.Name).Space).dm) then ((jo N g st qP pe (fun y0=>jT N y0 (rF p x.Name))).bind fun v7=>(l9 N g st qP pe (fun y0=>jU N y0 (rF p x.Name))).bind fun v8=>bif (aF .eql (List.length v7:Int) 0&&aF .gtr (List.length v8:Int) 0) then ((jZ N 21 v8).bind fun v9=>some (Sum.inr v9)) else (some (Sum.inl (⟨[],0⟩:au)))) else (some (Sum.inl (⟨[],0⟩:au))))):Option (au ⊕ au)).bind fun TI=>Sum.elim (fun l15=>(fH N g st qP pe x.Name 4).bind fun v17=>some (v17,(⟨[],0⟩:au))) (fun r16=>some (st,r16)) TI)=_
  rw [e1,e2,e3,e4,hb]
  simp only [bS,gt0,ne0]
  simp only [jr]
  unfold jZ
  by_cases h5:(rF p x.Name).Kind=5
  · rw [dT h5, dF (show ¬ (rF p x.Name).Kind = 1 by omega)]
    simp only [cond_true,Bool.true_and,Bool.false_and,cond_false]
    cases (mZ p A (fun z=>DR z.Locks (rF p x.Name).Name)).isEmpty <;> rfl
  · rw [dF h5]
    simp only [cond_false,Bool.false_and]
    cases decide ((rF p x.Name).Kind=1) with
    | false=>rfl
    | true =>
      simp only [cond_true,Bool.true_and,bS]
      cases decide (stA A (rF p x.Name).Name=2) with
      | false=>rfl
      | true =>
        cases (yx p (rF p x.Name).Space).dm with
        | false=>rfl
        | true =>
          simp only [Bool.true_and,cond_true]
          cases (mZ p A (fun z=>decide (z.Kind=1)&&decide (z.Space=(rF p x.Name).Space) && !decide (z.Name=(rF p x.Name).Name))).isEmpty with
          | false=>rfl
          | true=>cases (yg A (fun s=>decide (s=(rF p x.Name).Space))).isEmpty <;> rfl
end
end Go.KB
namespace Go.KB
set_option linter.unusedVariables false
theorem Tv {α β:Type} [DecidableEq α] {k:α} {y:β}:∀ {m:List (α×β)},oW m k=false→rE m k y=m ++ [(k,y)]
 | [],_=>rfl
 | q :: r,h=>by
  unfold oW at h
  rw [Bool.or_eq_false_iff] at h
  unfold rE
  rw [h.1,cond_false,Tv h.2];rfl
theorem Tz {β : Type} {k : Str} : ∀ {m : List (Str × β)}, oW m k = m.any fun q => decide (q.1 = k)
  | []=>rfl
  | q :: r=>by
    unfold oW
    rw [List.any_cons,Tz,show decide (k=q.1)=decide (q.1=k) from decide_eq_decide.2 ⟨Eq.symm,Eq.symm⟩]
theorem Y7 {α:Type} {l m:List α} {f:α→Bool} (h:l.Perm m):l.any f=m.any f:=by
 rw [Bool.eq_iff_iff,List.any_eq_true,List.any_eq_true]
 exact ⟨fun ⟨x,a,b⟩=>⟨x,h.mem_iff.1 a,b⟩,fun ⟨x,a,b⟩=>⟨x,h.mem_iff.2 a,b⟩⟩
theorem TA {n s:Str}:∀ {l:List (Str×Str)},(IE l n s).Perm ((n,s) :: l)
 | []=>List.Perm.refl _
 | q :: r=>by
  unfold IE
  cases decide (q.1<n) with
  | false=>exact List.Perm.refl _
  | true=>exact (TA.cons q).trans (List.Perm.swap _ _ _)
theorem LU {β : Type} {k : Str} : ∀ {m : List (Str × β)}, (m.map fun q => q.1).Nodup → Gt m k = m.filter fun q => !decide (q.1 = k)
  | [],_=>rfl
  | q :: r,h=>by
    rw [List.map_cons,List.nodup_cons] at h
    unfold Gt
    rw [List.filter_cons]
    by_cases hk:k=q.1
    · rw [dT hk,dT hk.symm,cond_true]
      simp only [Bool.not_true,Bool.false_eq_true,if_false]
      refine (List.filter_eq_self.2 fun a ha=>?_).symm
      rw [Bool.not_eq_true',decide_eq_false_iff_not]
      intro he
      exact h.1 (List.mem_map.2 ⟨a,ha,he.trans hk⟩)
    · rw [dF hk,dF (fun e=>hk e.symm),cond_false,LU h.2];rfl
theorem Y8 {l:List (Str×Str)} (h:l.Pairwise (fun a b=>a.1<b.1)):(l.map fun q=>q.1).Nodup:=by
 unfold List.Nodup
 rw [List.pairwise_map]
 exact h.imp fun {a b} hab he=>by
  have hab':a.1<b.1:=hab
  rw [he] at hab'
  exact List.lt_irrefl _ hab'
theorem Hq {N:Nat} {p:GPermitPlan} {s:Str} (hp:EZ p) (hN:1000000≤N):jg N p s=some (yx p s,vW p s):=by
 have:=hp.s
 rw [zK (by omega) hN]
 exact congrArg some (Prod.ext rfl Il)
theorem QS {N:Nat} {p:GPermitPlan} {s:Str} (hp:EZ p) (hN:1000000≤N):ou N p s=some (rF p s,lY p s):=by
 have:=hp.m
 rw [Ef (by omega) hN]
 exact congrArg some (Prod.ext rfl Il)
structure MB (p:GPermitPlan) (g:ai) (R:AO×List Str×Int) (o:List (Str×ah)×List (Str×ay)×List (Str×Str)×au):Prop where
 rel:RelA p R.1 g o.1 o.2.1 o.2.2.1
 ref:o.2.2.2=⟨R.2.1,R.2.2⟩
theorem RelA.up {p:GPermitPlan} {A:AO} {g:ai} {st:List (Str×ah)} {qP:List (Str×ay)} {pe:List (Str×Str)} (h:RelA p A g st qP pe) {n:Str} (hn:lY p n=true) (e:ah):RelA p (UM A n e) g (rE st n e) qP pe :=
 ⟨⟨h.b.plan,h.b.now,h.b.Ou,h.b.Ov⟩,h.st.set hn e,h.pe,h.done⟩
section
variable {N:Nat} {p:GPermitPlan} {A:AO} {g:ai} {st:List (Str×ah)} {qP:List (Str×ay)} {pe:List (Str×Str)} (hp:EZ p) (ho:DN p) (hN:1000000≤N) (h:RelA p A g st qP pe) (b:G6 A) (hpp:A.pp.Pairwise (fun a b=>a.1<b.1))
theorem zn (h:RelA p A g st qP pe) {e:Int} {l:List Str}:MB p g (vI A e l) (st,qP,pe,⟨l,e⟩):=⟨h,rfl⟩
include hN h
theorem TB {x:GEvent} (hh:lY p x.Name=true):∃ o,((pK N g st qP pe x).bind fun y=>some (y.1,qP,pe,y.2))=some o∧MB p g (BJ A x) o:=by
 unfold pK BJ
 rw [DL (by omega),bS,h.st.get _ hh]
 cases lm x.Person with
 | false=>exact ⟨_,rfl,zn h⟩
 | true=>exact ⟨_,rfl,h.up hh _,rfl⟩
theorem U1 {x:GEvent} (hh:lY p x.Name=true):∃ o,((qc N g st qP pe x).bind fun y=>some (y.1,qP,pe,y.2))=some o∧MB p g (Ed A x) o:=by
 unfold qc Ed
 rw [DL (by omega),bS,h.st.get _ hh,vG,sG]
 cases lm x.Person with
 | false=>exact ⟨_,rfl,zn h⟩
 | true =>
  cases (decide (x.To≤(A.es x.Name).xX)||decide (1000000<x.To)) with
  | true=>exact ⟨_,rfl,zn h⟩
  | false=>exact ⟨_,rfl,h.up hh _,rfl⟩
omit hN in
theorem OD {x:GEvent} {k:Int} (hh:lY p x.Name=true):∃ o,(((fH N g st qP pe x.Name k).bind fun v1=>some (v1,(⟨[],0⟩:au))).bind fun y=>some (y.1,qP,pe,y.2))=some o∧MB p g (Ap (OH A x.Name k)) o:=by
 unfold fH
 rw [h.st.get _ hh]
 exact ⟨_,rfl,h.up hh _,rfl⟩
include hp b hpp ho
theorem PU {x:GEvent} (hh:lY p x.Name=true):∃ o,((oG N g st qP pe x).bind fun y=>some (y.1,qP,pe,y.2))=some o∧MB p g (zx p A x) o:=by
 rw [Y6 hp ho hN h b hpp hh]
 refine ⟨_,rfl,?_,rfl⟩
 simp only []
 unfold zx
 cases lm x.Person with
 | false=>exact h
 | true =>
  cases decide (x.Person=(A.es x.Name).yY) with
  | true=>exact h
  | false =>
   simp only [Bool.not_true,cond_false]
   have hw:=QI (p:=p) (A:=A) (x:=rF p x.Name)
   cases hwy:EU p A (rF p x.Name) with
   | nil=>exact h.up hh _
   | cons r l =>
    have h0:r.Err≠0:=hw r (by rw [hwy];exact List.mem_cons_self)
    show RelA p A g (Y5 (vI A r.Err r.Names) _ st).1 qP pe
    rw [Tq h0];exact h
omit ho in
theorem U2 {x:GEvent} (hh:lY p x.Name=true):∃ o,((nV N g st qP pe x).bind fun y=>some (y.1,qP,pe,y.2))=some o∧MB p g (Aq p A x) o:=by
 rw [WW hp hN h b hpp hh]
 refine ⟨_,rfl,?_,rfl⟩
 simp only []
 unfold Aq
 simp only []
 cases (decide ((rF p x.Name).Kind=5) && !(mZ p A (fun z=>DR z.Locks (rF p x.Name).Name)).isEmpty) with
 | true=>exact h
 | false =>
  rw [cond_false]
  cases (decide ((rF p x.Name).Kind=1)&&decide (stA A (rF p x.Name).Name=2)&&(yx p (rF p x.Name).Space).dm&&(mZ p A (fun z=>decide (z.Kind=1)&&decide (z.Space=(rF p x.Name).Space) && !decide (z.Name=(rF p x.Name).Name))).isEmpty && !(yg A (fun s=>decide (s=(rF p x.Name).Space))).isEmpty) with
  | true=>exact h
  | false=>exact h.up hh _
omit ho hpp b
theorem jJy {x:GEvent}:∃ o,((rP N g st qP pe x).bind fun y=>some (st,y.1,pe,y.2))=some o∧MB p g (SI p A x) o:=by
 have hs:=hp.s
 unfold rP SI
 rw [h.b.plan,Hq hp hN,bS]
 simp only [bQ,sG]
 cases vW p x.Space with
 | false=>exact ⟨_,rfl,zn h⟩
 | true =>
  simp only [Bool.not_true,cond_false]
  cases (decide (x.nG<0)||decide (1000<x.nG)||decide (x.EY<0)||decide (1000<x.EY)) with
  | true=>exact ⟨_,rfl,zn h⟩
  | false =>
   refine ⟨_,rfl,⟨⟨h.b.plan,h.b.now,fun s=>?_,fun s t e=>?_⟩,h.st,h.pe,h.done⟩,rfl⟩
   ·simp only [cond_false,Ap]
    rw [Ij,h.b.Ou]
    cases decide (s=x.Space) <;> rfl
   ·simp only [cond_false,Ap] at e ⊢
    rw [EX]
    by_cases he:s=x.Space
    ·rw [dT he] at e;cases e;rw [if_pos he,h.b.now]
    ·rw [dF he] at e;rw [if_neg he];exact h.b.Ov s t e
theorem Y9 {s:Str}:kH N g st qP pe (yx p s)=some (mZ p A (fun y=>decide (y.Kind=3)&&decide (kJ p y.Space (yx p s).Name≤1))):=by
 have hm:=hp.m
 unfold kH
 rw [Io (f:=iQ N g st qP pe (yx p s)) (A:=A) (so:=fun y=>decide (y.Kind=3)&&decide (kJ p y.Space (yx p s).Name≤1)) hp hN (fun i hi acc hacc=>?_) (fun acc=>?_)]
 ·rfl
 ·unfold iQ
  simp only []
  rw [h.b.plan,bQ,dT (by omega),cond_true,ji hi,bS,Jl hN h.st (Ik hi) (by decide),bS,qw (by omega)]
  have hc:([2]:List Int).contains (stA A p.aj[i].Name)=decide (stA A p.aj[i].Name=2):=by rw [Bool.eq_iff_iff];simp
  have hq:pM N g st qP pe p.aj[i] (yx p s)=some (decide (p.aj[i].Kind=3)&&decide (kJ p p.aj[i].Space (yx p s).Name≤1)):=by
   unfold pM
   rw [h.b.plan,JQ hp hN,jr]
   cases decide (p.aj[i].Kind=3) with
   | false=>rfl
   | true=>simp only [cond_true,bS,Bool.true_and,vG]
  rw [hc,hq]
  cases decide (stA A p.aj[i].Name=2) <;> rfl
 ·unfold iQ
  simp only []
  rw [h.b.plan,bQ,dF (by omega),cond_false]
theorem Za {x:GEvent}:kG N g st qP pe x=some (mZ p A (fun y=>!decide (y.Kind=5)&&decide (kJ p y.Space x.Space≤1))):=by
 have hm:=hp.m
 unfold kG
 rw [Io (f:=iP N g st qP pe x) (A:=A) (so:=fun y=>!decide (y.Kind=5)&&decide (kJ p y.Space x.Space≤1)) hp hN (fun i hi acc hacc=>?_) (fun acc=>?_)]
 ·rfl
 ·unfold iP
  simp only []
  rw [h.b.plan,bQ,dT (by omega),cond_true,ji hi,bS,Jl hN h.st (Ik hi) (by decide),bS,qw (by omega)]
  have hc:([2]:List Int).contains (stA A p.aj[i].Name)=decide (stA A p.aj[i].Name=2):=by rw [Bool.eq_iff_iff];simp
  have hq:pJ N g st qP pe p.aj[i] x=some (!decide (p.aj[i].Kind=5)&&decide (kJ p p.aj[i].Space x.Space≤1)):=by
   unfold pJ
   rw [h.b.plan,JQ hp hN,uK]
   cases (!decide (p.aj[i].Kind=5)) with
   | false=>rfl
   | true=>simp only [cond_true,bS,Bool.true_and,vG]
  rw [hc,hq]
  cases decide (stA A p.aj[i].Name=2) <;> rfl
 ·unfold iP
  simp only []
  rw [h.b.plan,bQ,dF (by omega),cond_false]
omit hp hN in
theorem Lc {n:Str}:oW pe n=zl A n:=by
 rw [Tz,Y7 h.pe];rfl
theorem WX {x:GEvent}:∃ o,((qF N g st qP pe x).bind fun y=>some (st,qP,y.1,y.2))=some o∧MB p g (Hl p A x) o:=by
 have hs:=hp.s
 unfold qF Hl
 rw [DL (by omega),bS,h.b.plan]
 cases lm x.Person with
 | false=>exact ⟨_,rfl,zn h⟩
 | true =>
  simp only [Bool.not_true,cond_false]
  rw [Hq hp hN,bS]
  simp only []
  cases hh:vW p x.Space with
  | false=>exact ⟨_,rfl,zn h⟩
  | true =>
   have hnm:=(JL hh).2
   simp only [Bool.not_true,cond_false]
   rw [WV hp hN h,Y9 hp hN h,Lc h,hnm]
   cases hi:zl A x.Person with
   | true=>exact ⟨_,rfl,zn h⟩
   | false =>
    simp only [cond_false]
    have hx:((bif (yx p x.Space).dm then (some (wG p A x.Space)) else some false).bind fun v6=>(some (((yx p x.Space).dm&&(!v6))):Option Bool))=some ((yx p x.Space).dm && !wG p A x.Space):=by
     cases (yx p x.Space).dm <;> rfl
    have hx2:∀ (F:Bool→Option (List (Str×Str)×au)),((bif (yx p x.Space).dm then (some (wG p A x.Space)) else some false).bind fun v6=>F ((yx p x.Space).dm&&(!v6)))=F ((yx p x.Space).dm && !wG p A x.Space):=by
     intro F;cases (yx p x.Space).dm <;> rfl
    rw [hx2 (fun c=>bif c then _ else _)]
    cases ((yx p x.Space).dm && !wG p A x.Space) with
    | true=>exact ⟨_,rfl,zn h⟩
    | false =>
     simp only [cond_false,bS,gt0]
     cases (!(mZ p A (fun y=>decide (y.Kind=3)&&decide (kJ p y.Space x.Space≤1))).isEmpty) with
     | true=>exact ⟨_,rfl,zn h⟩
     | false =>
      refine ⟨_,rfl,⟨⟨h.b.plan,h.b.now,h.b.Ou,h.b.Ov⟩,h.st,?_,h.done⟩,rfl⟩
      show (rE pe x.Person x.Space).Perm (IE A.pp x.Person x.Space)
      rw [Tv (by rw [Lc h];exact hi)]
      exact (List.perm_append_singleton _ _).trans ((h.pe.cons _).trans TA.symm)
include hpp
omit hp in
theorem WY {x:GEvent}:∃ o,((qH N g st qP pe x).bind fun y=>some (st,qP,y.1,y.2))=some o∧MB p g (Hg A x) o:=by
 unfold qH Hg
 rw [DL (by omega),bS,Lc h]
 cases lm x.Person with
 | false=>exact ⟨_,rfl,zn h⟩
 | true =>
  cases zl A x.Person with
  | false=>exact ⟨_,rfl,zn h⟩
  | true =>
   refine ⟨_,rfl,⟨⟨h.b.plan,h.b.now,h.b.Ou,h.b.Ov⟩,h.st,?_,h.done⟩,rfl⟩
   show (Gt pe x.Person).Perm (A.pp.filter fun q=>!decide (q.1=x.Person))
   rw [LU]
   ·exact h.pe.filter _
   ·exact ((h.pe.map _).nodup_iff).2 (Y8 hpp)
omit hpp
include ho
theorem WZ {x:GEvent}:∃ o,((qI N g st qP pe x).bind fun y=>some (y.1,qP,pe,y.2))=some o∧MB p g (Hf p A x) o:=by
 have hs:=hp.s
 have hm:=hp.m
 unfold qI Hf
 rw [h.b.plan,Hq hp hN,bS]
 simp only []
 cases vW p x.Space with
 | false=>exact ⟨_,rfl,zn h⟩
 | true =>
  simp only [Bool.not_true,cond_false]
  rw [Za hp hN h,bS]
  have hmem:∀ s ∈ mZ p A (fun y=>!decide (y.Kind=5)&&decide (kJ p y.Space x.Space≤1)),lY p s=true:=by
   intro s hs
   unfold mZ at hs
   obtain ⟨y,hy,rfl⟩:=List.mem_map.1 hs
   exact yT.2 ⟨y,(List.mem_filter.1 hy).1,rfl⟩
  have hlen:(mZ p A (fun y=>!decide (y.Kind=5)&&decide (kJ p y.Space x.Space≤1))).length≤p.aj.length:=by
   unfold mZ;rw [List.length_map];exact List.length_filter_le _ _
  have hin:∀ s,lY p s=true→DR (mZ p A (fun y=>!decide (y.Kind=5)&&decide (kJ p y.Space x.Space≤1))) s=(lY p s&&decide (stA A s=2)&&(!decide ((rF p s).Kind=5)&&decide (kJ p (rF p s).Space x.Space≤1))):=by
   intro s hs
   rw [hs,Bool.true_and,Bool.eq_iff_iff,jJk]
   unfold mZ
   rw [List.mem_map]
   constructor
   ·rintro ⟨y,hy,rfl⟩
    obtain ⟨hy1,hy2⟩:=List.mem_filter.1 hy
    rw [ho.Et hy1];exact hy2
   ·intro hb
    obtain ⟨h1,h2⟩:=zC hs
    refine ⟨rF p s,List.mem_filter.2 ⟨h1,?_⟩,h2⟩
    rw [h2];exact hb
  generalize mZ p A (fun y=>!decide (y.Kind=5)&&decide (kJ p y.Space x.Space≤1))=L at hmem hlen hin
  have key:∃ st',dU (lQ N g qP pe L) N (0,st)=some st'∧Ot p (fun n=>bif DR L n then ({ A.es n with state:=3 }:ah) else A.es n) st':=by
   refine G5 (N:=N) (n:=L.length) (f:=lQ N g qP pe L) (s0:=(0,st)) (fun i s=>s.1=(i:Int)∧Ot p (fun n=>bif DR (L.take i) n then ({ A.es n with state:=3 }:ah) else A.es n) s.2) (fun st'=>Ot p (fun n=>bif DR L n then ({ A.es n with state:=3 }:ah) else A.es n) st') ⟨rfl,h.st.congr fun s _=>by unfold DR;simp⟩ (fun i s hi hs=>?_) (fun s hs=>?_) (by omega)
   ·obtain ⟨s1,st'⟩:=s
    obtain ⟨rfl,hr⟩:=hs
    simp only [] at hr
    have hn:=hmem _ (List.getElem_mem hi)
    refine ⟨_,by unfold lQ fH;simp only [];rw [bQ,dT (by omega),cond_true,ji hi,bS,bS,qw (by omega)],rfl,?_⟩
    refine (hr.set hn _).congr fun s hs=>?_
    simp only []
    rw [hr.get _ hn]
    have htk:DR (L.take (i+1)) s=(DR (L.take i) s||decide (s=L[i])):=by
     unfold DR;rw [List.take_succ_eq_append_getElem hi,List.any_append];simp
    rw [htk]
    by_cases he:s=L[i]
    ·subst he
     rw [dT rfl,Bool.or_true,cond_true,cond_true]
     cases DR (L.take i) L[i] <;> rfl
    ·rw [dF he,Bool.or_false];rfl
   ·obtain ⟨s1,st'⟩:=s
    obtain ⟨rfl,hr⟩:=hs
    refine ⟨st',?_,?_⟩
    ·unfold lQ
     simp only []
     rw [bQ,dF (by omega),cond_false]
    ·rw [List.take_length] at hr;exact hr
  obtain ⟨st',h1,h2⟩:=key
  rw [h1]
  refine ⟨_,rfl,⟨⟨h.b.plan,h.b.now,h.b.Ou,h.b.Ov⟩,h2.congr fun s hs=>?_,h.pe,h.done⟩,rfl⟩
  show _=(bif lY p s&&decide (stA A s=2)&&(!decide ((rF p s).Kind=5)&&decide (kJ p (rF p s).Space x.Space≤1)) then ({ A.es s with state:=3 }:ah) else A.es s)
  rw [hin s hs]
end
end Go.KB
namespace Go.KB
set_option linter.unusedVariables false
instance:Inhabited bJ:=⟨⟨[],[],[],none⟩⟩
def QT:List bJ:=(wU 0).getD []
theorem Zb {N:Nat}:wU N=some QT:=rfl
def yX (op:Int):bJ:=QT[op.toNat]!
theorem EW {op:Int} (h0:0≤op) (h12:op<12):op=0∨op=1∨op=2∨op=3∨op=4∨op=5∨op=6∨op=7∨op=8∨op=9∨op=10∨op=11:=by omega
theorem Zc {op:Int} (h0:0≤op) (h12:op<12):idx QT op=some (yX op):=by
 rcases EW h0 h12 with h | h | h | h | h | h | h | h | h | h | h | h <;> subst h <;> rfl
theorem TD {op:Int} (h0:0≤op) (h12:op<12):(yX op).states=(wH op).getD []:=by
 rcases EW h0 h12 with h | h | h | h | h | h | h | h | h | h | h | h <;> subst h <;> rfl
theorem W9 {op:Int} {l:List Int} (h:wH op=some l):l.isEmpty=false∧l.length<100:=by
 unfold wH at h
 repeat' split at h
 all_goals first | (cases h;exact ⟨rfl,by decide⟩) | cases h
section
variable {N:Nat} {p:GPermitPlan} {A:AO} {g:ai} {st:List (Str×ah)} {qP:List (Str×ay)} {pe:List (Str×Str)} (hp:EZ p) (ho:DN p) (hN:1000000≤N) (h:RelA p A g st qP pe) (b:G6 A) (hpp:A.pp.Pairwise (fun a b=>a.1<b.1))
include hp hN h b hpp ho
theorem Zd {x:GEvent} (h0:0≤x.Op) (h12:x.Op<12) (hh:wH x.Op≠none→lY p x.Name=true):∃ o,Fj N g st qP pe (yX x.Op).O1 x=some o∧MB p g (vH p A x) o:=by
  unfold Fj vH
  rcases EW h0 h12 with e | e | e | e | e | e | e | e | e | e | e | e
  · have hd : (yX x.Op).O1 = some 125 := by rw [e]; rfl
    rw [hd];simp only [e,Option.some.injEq,Nat.reduceEqDiff,decide_false,decide_true,cond_false,cond_true,if_false,Int.reduceEq]
    exact ⟨_,rfl,h,rfl⟩
  · have hd : (yX x.Op).O1 = some 126 := by rw [e]; rfl
    have hx:=hh (by rw [e];decide)
    rw [hd];simp only [e,Option.some.injEq,Nat.reduceEqDiff,decide_false,decide_true,cond_false,cond_true,if_false,Int.reduceEq]
    exact TB hN h hx
  · have hd : (yX x.Op).O1 = some 127 := by rw [e]; rfl
    have hx:=hh (by rw [e];decide)
    rw [hd];simp only [e,Option.some.injEq,Nat.reduceEqDiff,decide_false,decide_true,cond_false,cond_true,if_false,Int.reduceEq]
    exact PU hp ho hN h b hpp hx
  · have hd : (yX x.Op).O1 = some 128 := by rw [e]; rfl
    have hx:=hh (by rw [e];decide)
    rw [hd];simp only [e,Option.some.injEq,Nat.reduceEqDiff,decide_false,decide_true,cond_false,cond_true,if_false,Int.reduceEq]
    exact OD h hx
  · have hd : (yX x.Op).O1 = some 127 := by rw [e]; rfl
    have hx:=hh (by rw [e];decide)
    rw [hd];simp only [e,Option.some.injEq,Nat.reduceEqDiff,decide_false,decide_true,cond_false,cond_true,if_false,Int.reduceEq]
    exact PU hp ho hN h b hpp hx
  · have hd : (yX x.Op).O1 = some 129 := by rw [e]; rfl
    have hx:=hh (by rw [e];decide)
    rw [hd];simp only [e,Option.some.injEq,Nat.reduceEqDiff,decide_false,decide_true,cond_false,cond_true,if_false,Int.reduceEq]
    exact U2 hp hN h b hpp hx
  · have hd : (yX x.Op).O1 = some 130 := by rw [e]; rfl
    have hx:=hh (by rw [e];decide)
    rw [hd];simp only [e,Option.some.injEq,Nat.reduceEqDiff,decide_false,decide_true,cond_false,cond_true,if_false,Int.reduceEq]
    exact OD h hx
  · have hd : (yX x.Op).O1 = some 131 := by rw [e]; rfl
    rw [hd];simp only [e,Option.some.injEq,Nat.reduceEqDiff,decide_false,decide_true,cond_false,cond_true,if_false,Int.reduceEq]
    exact jJy hp hN h
  · have hd : (yX x.Op).O1 = some 132 := by rw [e]; rfl
    rw [hd];simp only [e,Option.some.injEq,Nat.reduceEqDiff,decide_false,decide_true,cond_false,cond_true,if_false,Int.reduceEq]
    exact WX hp hN h
  · have hd : (yX x.Op).O1 = some 133 := by rw [e]; rfl
    rw [hd];simp only [e,Option.some.injEq,Nat.reduceEqDiff,decide_false,decide_true,cond_false,cond_true,if_false,Int.reduceEq]
    exact WY hN h hpp
  · have hd : (yX x.Op).O1 = some 134 := by rw [e]; rfl
    rw [hd];simp only [e,Option.some.injEq,Nat.reduceEqDiff,decide_false,decide_true,cond_false,cond_true,if_false,Int.reduceEq]
    exact WZ hp ho hN h
  · have hd : (yX x.Op).O1 = some 135 := by rw [e]; rfl
    have hx:=hh (by rw [e];decide)
    rw [hd];simp only [e,Option.some.injEq,Nat.reduceEqDiff,decide_false,decide_true,cond_false,cond_true,if_false,Int.reduceEq]
    exact U1 hN h hx
end
theorem RelA.setNow {p:GPermitPlan} {A:AO} {g:ai} {st:List (Str×ah)} {qP:List (Str×ay)} {pe:List (Str×Str)} (h:RelA p A g st qP pe) (t:Int):RelB p { A with now:=t } ({ g with now:=t }:ai) qP:=⟨h.b.plan,rfl,h.b.Ou,h.b.Ov⟩
def Ld (p:GPermitPlan) (A:AO) (x:GEvent) (G:AO×List Str×Int):AO×List Str×Int:=bif decide (G.2.2=0) then (({ gQ p G.1 with done:=A.done ++ [x] }:AO),[],0) else G
theorem TF {p:GPermitPlan} {A S:AO} {x:GEvent} {e:Int} {l:List Str} (he:e≠0):Ld p A x (vI S e l)=vI S e l:=by
 unfold Ld vI
 simp only []
 rw [dF he];rfl
theorem TG {p:GPermitPlan} {A:AO} {x:GEvent} {G:AO×List Str×Int} (he:G.2.2≠0):Ld p A x G=G:=by
 unfold Ld;rw [dF he];rfl
theorem VP {p:GPermitPlan} {A:AO} {x:GEvent} {G:AO×List Str×Int} (he:G.2.2=0):Ld p A x G=(({ gQ p G.1 with done:=A.done ++ [x] }:AO),[],0):=by
 unfold Ld;rw [dT he];rfl
theorem Do_eq {N:Nat} {p:GPermitPlan} {A:AO} {g:ai} {st:List (Str×ah)} {qP:List (Str×ay)} {pe:List (Str×Str)} (hp:EZ p) (ho:DN p) (hN:1000000≤N) (h:RelA p A g st qP pe) (hi:SQ p A) (hd:A.done.length<999999) (x:GEvent) :
    ∃ g' st' Jh UH,nI N g st qP pe x=some (g',st',Jh,UH,(LG p A x).2.1,(LG p A x).2.2)∧RelA p (LG p A x).1 g' st' Jh UH:=by
  have hlim:lim ≥ 10000000:=by decide
  have hm:=hp.m
  obtain ⟨gp,gn,gd⟩:=g
  have hg:p=gp:=h.b.plan.symm
  have hgn:gn=A.now:=h.b.now
  have hgd:gd=A.done:=h.done
  subst hg hgn hgd
  unfold nI LG
  rw [Zb,bS]
  have hlen:(QT.length:Int)=12:=rfl
  rw [hlen,bQ,Am]
  by_cases hr:x.Op<0∨12≤x.Op∨x.At<0∨1000000<x.At
  · have hr' : (decide (x.Op < 0) || decide (12 ≤ x.Op) || decide (x.At < 0) || decide (1000000 < x.At)) = true := by simpa [or_assoc] using hr
    rw [hr',cond_true]
    refine ⟨⟨p,A.now,A.done⟩,st,qP,pe,?_,h⟩
    unfold vT
    rw [Am,vG]
    cases hc:(decide (x.Op<0)||decide (12≤x.Op)) with
    | true=>rfl
    | false =>
      simp only [Bool.not_false,cond_true,bS,Bool.false_or]
      have:(decide (0≤x.At)&&decide (x.At≤1000000))=false:=by
        rw [Bool.or_eq_false_iff,decide_eq_false_iff_not,decide_eq_false_iff_not] at hc
        rw [Bool.and_eq_false_iff,decide_eq_false_iff_not,decide_eq_false_iff_not];omega
      rw [this];rfl
  · have hr' : (decide (x.Op < 0) || decide (12 ≤ x.Op) || decide (x.At < 0) || decide (1000000 < x.At)) = false := by simp; omega
    rw [hr',cond_false]
    have hop:(decide (x.Op<0)||decide (12≤x.Op))=false:=by simp;omega
    have htm:vT N x.At=some true:=by
      unfold vT;rw [Am,vG,dT (by omega),dT (by omega)];rfl
    rw [hop,htm]
    simp only [Bool.not_false,cond_true,bS,Bool.not_true,Bool.or_self,cond_false,bQ]
    by_cases hlt:x.At<A.now
    · rw [dT hlt];exact ⟨⟨p,A.now,A.done⟩,st,qP,pe,rfl,h⟩
    rw [dF hlt,cond_false,cond_false]
    have hw0:=hi.w
    have hw:WA p A.done { A with now:=x.At }:=hw0.le (fun s=>.inl rfl) (fun _=>rfl) ⟨by show A.now≤x.At;omega,by show x.At≤1000000;omega⟩ hw0.pp (fun s t e=>.inl e) hw0.pl
    have hb0:G6 { A with now:=x.At }:=hw.bd (by omega)
    obtain ⟨st1,e1,r1⟩:=La (pe:=pe) hp ho hN (h.setNow x.At) h.st hb0
    rw [e1,bS,Zc (by omega) (by omega),bS,TD (by omega) (by omega)]
    have hS:RelA p (gQ p { A with now:=x.At }) (⟨p,x.At,A.done⟩:ai) st1 qP pe:=⟨⟨rfl,rfl,h.b.Ou,h.b.Ov⟩,r1,h.pe,h.done⟩
    have hbS:G6 (gQ p { A with now:=x.At }):=hb0.settle
    have hiS:SQ p (gQ p { A with now:=x.At }):=DK ho hw
    have hact:∀ (G:AO×List Str×Int),(∃ o,Fj N (⟨p,x.At,A.done⟩:ai) st1 qP pe (yX x.Op).O1 x=some o∧MB p (⟨p,x.At,A.done⟩:ai) G o)→StepA p (gQ p { A with now:=x.At }) x G→∃ g' st' Jh UH,((Fj N (⟨p,x.At,A.done⟩:ai) st1 qP pe (yX x.Op).O1 x).bind fun v14=>bif (aF .neq v14.2.2.2.e 0) then (some ((⟨p,x.At,A.done⟩:ai),v14.1,v14.2.1,v14.2.2.1,v14.2.2.2.names,v14.2.2.2.e)) else ((lH N (⟨p,x.At,A.done⟩:ai) v14.1 v14.2.1 v14.2.2.1).bind fun v15=>(app A.done [x]).bind fun v16=>some ((⟨p,x.At,v16⟩:ai),v15,v14.2.1,v14.2.2.1,([]:List Str),(0:Int))))=some (g',st',Jh,UH,(Ld p A x G).2.1,(Ld p A x G).2.2)∧RelA p (Ld p A x G).1 g' st' Jh UH:=by
      rintro G ⟨⟨a1,a2,a3,a4⟩,ho1,ho2⟩ hstep
      rw [ho1,bS]
      have hrel:=ho2.rel
      have href:a4=⟨G.2.1,G.2.2⟩:=ho2.ref
      simp only [] at hrel
      subst href
      simp only [uK]
      by_cases h0:G.2.2=0
      · rw [dT h0,VP h0]
        simp only [Bool.not_true,cond_false]
        have hw2:=hstep.2.1 _ hiS.w
        have hdn:(gQ p { A with now:=x.At }).done=A.done:=rfl
        have hb2:G6 G.1:=hw2.bd (by rw [List.length_append,hdn];simp only [List.length_singleton];omega)
        obtain ⟨st2,e2,r2⟩:=La (pe:=a3) hp ho hN hrel.b hrel.st hb2
        rw [e2,bS,zW (by simp only [List.length_singleton];omega),bS]
        exact ⟨_,_,_,_,rfl,⟨hrel.b.plan,hrel.b.now,hrel.b.Ou,hrel.b.Ov⟩,r2,hrel.pe,rfl⟩
      · rw [dF h0,TG h0]
        exact ⟨_,_,_,_,rfl,hrel⟩
    have LJ:=fun hh=>Zd hp ho hN hS hbS hiS.w.pp (x:=x) (by omega) (by omega) hh
    have hstep:=JP ho (A:=gQ p { A with now:=x.At }) (x:=x) (by omega) (by omega)
    show ∃ g' st' Jh UH,_=some (g',st',Jh,UH,(Ld p A x (vX p (gQ p { A with now:=x.At }) x)).2.1,(Ld p A x (vX p (gQ p { A with now:=x.At }) x)).2.2)∧RelA p (Ld p A x (vX p (gQ p { A with now:=x.At }) x)).1 g' st' Jh UH
    unfold vX at hstep ⊢
    cases hs:wH x.Op with
    | none =>
      rw [hs] at hstep
      simp only [Option.getD_none,List.isEmpty_nil,Bool.not_true,cond_false,bS,Sum.elim_inl]
      exact hact _ (LJ fun hn=>absurd hs hn) hstep
    | some l =>
      rw [hs] at hstep
      obtain ⟨hl1,hl2⟩:=W9 hs
      simp only [Option.getD_some,hl1,Bool.not_false,cond_true] at hstep ⊢
      rw [QS hp hN,bS]
      simp only []
      cases hh:lY p x.Name with
      | false=>simp only [Bool.not_false,cond_true];rw [TF (by decide)];exact ⟨_,_,_,_,rfl,hS⟩
      | true =>
        rw [hh] at hstep
        simp only [Bool.not_true,cond_false] at hstep ⊢
        rw [Jl hN r1 hh hl2,bS]
        cases hc:l.contains (stA (gQ p { A with now:=x.At }) x.Name) with
        | false=>simp only [Bool.not_false,cond_true];rw [TF (by decide)];exact ⟨_,_,_,_,rfl,hS⟩
        | true =>
          rw [hc] at hstep
          simp only [Bool.not_true,cond_false,bS,Sum.elim_inl] at hstep ⊢
          exact hact _ (LJ fun _=>hh) hstep
end Go.KB
namespace Go.KB
set_option linter.unusedVariables false
section
variable {N:Nat} {p:GPermitPlan} {A:AO} {g:ai} {st:List (Str×ah)} {qP:List (Str×ay)} {pe:List (Str×Str)}
theorem Now_eq (h:RelA p A g st qP pe):rO N g st qP pe=some A.now:=by
 unfold rO;rw [h.b.now]
end
theorem do_done {p:GPermitPlan} (ho:DN p) {A:AO} {x:GEvent}:(LG p A x).1.done.length≤A.done.length+1:=by
  unfold LG
  by_cases hr:x.Op<0∨12≤x.Op∨x.At<0∨1000000<x.At
  · have hr' : (decide (x.Op < 0) || decide (12 ≤ x.Op) || decide (x.At < 0) || decide (1000000 < x.At)) = true := by simpa [or_assoc] using hr
    rw [hr'];exact Nat.le_succ _
  · have hr' : (decide (x.Op < 0) || decide (12 ≤ x.Op) || decide (x.At < 0) || decide (1000000 < x.At)) = false := by simp; omega
    rw [hr',cond_false]
    cases decide (x.At<A.now) with
    | true=>exact Nat.le_succ _
    | false =>
      obtain ⟨_,_,_,s4,_⟩:=JP ho (A:=gQ p { A with now:=x.At }) (x:=x) (by omega) (by omega)
      show (Ld p A x (vX p (gQ p { A with now:=x.At }) x)).1.done.length≤_
      by_cases h0:(vX p (gQ p { A with now:=x.At }) x).2.2=0
      · rw [VP h0];show (A.done ++ [x]).length≤_;simp
      · rw [TG h0,s4];exact Nat.le_succ _
structure Wy (p:GPermitPlan) (i:Nat) (A:AO) (g:ai) (st:List (Str×ah)) (qP:List (Str×ay)) (pe:List (Str×Str)):Prop where
 rel:RelA p A g st qP pe
 inv:SQ p A
 len:A.done.length≤i
theorem Wy.bd {p:GPermitPlan} {i:Nat} {A:AO} {g:ai} {st:List (Str×ah)} {qP:List (Str×ay)} {pe:List (Str×Str)} (h:Wy p i A g st qP pe) (hi:i<1000000):G6 A:=h.inv.w.bd (Nat.lt_of_le_of_lt h.len hi)
theorem ZU {N:Nat} {p:GPermitPlan} (hp:EZ p) (ho:wW p=0) (hN:1000000≤N):∃ st,ru N p=some (some ((⟨p,0,[]⟩:ai),st,[],[]),0)∧Wy p 0 (Oa p) (⟨p,0,[]⟩:ai) st [] []:=by
 obtain ⟨st,h1,h2⟩:=New_eq hp ho hN
 exact ⟨st,h1,h2,jJx (okP ho),Nat.le_refl _⟩
theorem run_do {N:Nat} {p:GPermitPlan} {i:Nat} {A:AO} {g:ai} {st:List (Str×ah)} {qP:List (Str×ay)} {pe:List (Str×Str)} (hp:EZ p) (ho:DN p) (hN:1000000≤N) (h:Wy p i A g st qP pe) (hi:i<1000) (x:GEvent) :
  ∃ g' st' Jh UH,nI N g st qP pe x=some (g',st',Jh,UH,(LG p A x).2.1,(LG p A x).2.2)∧Wy p (i+1) (LG p A x).1 g' st' Jh UH:=by
 have hl:=h.len
 obtain ⟨g',st',Jh,UH,h1,h2⟩:=Do_eq hp ho hN h.rel h.inv (by omega) x
 exact ⟨g',st',Jh,UH,h1,h2,(inv_do ho h.inv).1,Nat.le_trans (do_done ho) (by omega)⟩
end Go.KB
