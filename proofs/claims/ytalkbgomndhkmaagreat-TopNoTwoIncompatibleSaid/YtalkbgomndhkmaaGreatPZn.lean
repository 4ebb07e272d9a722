/- Plain laws of chapter 7: what stays true in an office. Plain laws of chapter 7: the program's office settles. Plain laws of chapter 7: which permits exclude each other; the new office. No condition. -/
import Derived.Test.YtalkbgomndhkmaaGreatPZm
namespace Go.KB
set_option linter.unusedVariables false
theorem bifD {α:Type} {q:Prop} [Decidable q] {a b:α}:(bif decide q then a else b)=if q then a else b:=by
 by_cases h:q
 ·rw [dT h,if_pos h];rfl
 ·rw [dF h,if_neg h];rfl
structure WA (p:GPermitPlan) (d:List GEvent) (A:AO):Prop where
 st:∀ s,0≤stA A s∧stA A s≤6
 fr:∀ x ∈ p.aB,stA A x.Name=2→x.From≤A.now
 ex:∀ x ∈ p.aB,∀ y ∈ p.aB,stA A x.Name=2→stA A y.Name=2→sZ p x y=false
 tm:0≤A.now∧A.now≤1000000
 to:∀ x ∈ p.aB,(A.es x.Name).Ap=x.To∨∃ v ∈ d,v.Op=11∧v.Name=x.Name∧v.To=(A.es x.Name).Ap
 pp:A.pp.Pairwise (fun a b=>a.1<b.1)
 tt:∀ s t,A.ts s=some t→0≤t.at_∧t.at_≤1000000
 pl:A.pp.length≤d.length
structure IK (p:GPermitPlan) (A:AO):Prop where
 w:WA p A.done A
 un:∀ x ∈ p.aB,stA A x.Name=2→vz p A x=false
 li:∀ x ∈ p.aB,stA A x.Name≤3→A.now<(A.es x.Name).Ap
theorem WA.le {p:GPermitPlan} {d:List GEvent} {A A':AO} (h:WA p d A) (hs:∀ s,stA A' s=stA A s∨(0≤stA A' s∧stA A' s≤6∧stA A' s≠2)) (ht:∀ s,(A'.es s).Ap=(A.es s).Ap) (hn:A.now≤A'.now∧A'.now≤1000000) (hp:A'.pp.Pairwise (fun a b=>a.1<b.1)) (hq:∀ s t,A'.ts s=some t→A.ts s=some t∨(0≤t.at_∧t.at_≤1000000)) (hl:A'.pp.length≤d.length):WA p d A':=by
 have h2:∀ s,stA A' s=2→stA A s=2:=fun s e=>by
  rcases hs s with h1 | h1
  ·rw [← h1];exact e
  ·exact absurd e h1.2.2
 have htm:=h.tm
 refine ⟨fun s=>?_,fun x hx e=>?_,fun x hx y hy e f=>h.ex x hx y hy (h2 _ e) (h2 _ f),⟨by omega,hn.2⟩,fun x hx=>?_,hp,fun s t e=>(hq s t e).elim (h.tt s t) id,hl⟩
 ·rcases hs s with h1 | h1
  ·rw [h1];exact h.st s
  ·exact ⟨h1.1,h1.2.1⟩
 ·have:=h.fr x hx (h2 _ e);omega
 ·rw [ht];exact h.to x hx
theorem WA.mono {p:GPermitPlan} {d d':List GEvent} {A:AO} (h:WA p d A) (hd:∀ v ∈ d,v ∈ d') (hl:d.length≤d'.length):WA p d' A :=
 ⟨h.st,h.fr,h.ex,h.tm,fun x hx=>(h.to x hx).imp id fun ⟨v,hv,e⟩=>⟨v,hd v hv,e⟩,h.pp,h.tt,by have:=h.pl;omega⟩
theorem WA.snoc {p:GPermitPlan} {d:List GEvent} {A:AO} {x:GEvent} (h:WA p d A):WA p (d ++ [x]) A:=h.mono (fun v hv=>List.mem_append_left _ hv) (by simp)
theorem XK {A:AO} {n s:Str} {e:ah}:(Wu A n e).es s=if s=n then e else A.es s:=bifD
theorem Mc {A:AO} {n s:Str} {e:ah}:stA (Wu A n e) s=if s=n then e.state else stA A s:=by
 unfold stA;rw [XK];split <;> rfl
theorem WA.up {p:GPermitPlan} {d:List GEvent} {A:AO} {n:Str} {e:ah} (h:WA p d A) (he:0≤e.state∧e.state≤6) (h2:e.state=2→∀ x ∈ p.aB,x.Name=n→x.From≤A.now∧∀ y ∈ p.aB,stA A y.Name=2→sZ p x y=false) (ht:e.Ap=(A.es n).Ap∨∃ v ∈ d,v.Op=11∧v.Name=n∧v.To=e.Ap):WA p d (Wu A n e):=by
 refine ⟨fun s=>?_,fun x hx=>?_,fun x hx y hy=>?_,h.tm,fun x hx=>?_,h.pp,h.tt,h.pl⟩
 ·rw [Mc];split
  ·exact he
  ·exact h.st s
 ·rw [Mc];split
  ·rename_i hn;intro e2;exact (h2 e2 x hx hn).1
  ·intro e2;exact h.fr x hx e2
 ·rw [Mc,Mc]
  split
  ·rename_i hn
   split
   ·rename_i hm;intro _ _;unfold sZ;rw [dT (hn.trans hm.symm)];rfl
   ·intro e2 f2;exact (h2 e2 x hx hn).2 y hy f2
  ·split
   ·rename_i hm;intro e2 f2;rw [FT];exact (h2 f2 y hy hm).2 x hx e2
   ·exact h.ex x hx y hy
 ·rw [XK]
  split
  ·rename_i hn
   rcases ht with ht | ⟨v,hv,a,b,c⟩
   ·rw [ht,← hn];exact h.to x hx
   ·exact .inr ⟨v,hv,a,b.trans hn.symm,c⟩
  ·exact h.to x hx
theorem QS {p:GPermitPlan} {A:AO} {s:Str}:stA (qg p A) s=stA A s∨(stA (qg p A) s=6∧stA A s≤3∧(A.es s).Ap≤A.now):=by
 unfold stA qg wK
 simp only []
 cases kH p s with
 | false=>exact .inl rfl
 | true =>
  rw [nC]
  by_cases h:(A.es s).state≤3
  ·rw [dT h]
   by_cases h1:(A.es s).Ap≤A.now
   ·rw [dT h1];exact .inr ⟨rfl,h,h1⟩
   ·rw [dF h1];exact .inl rfl
  ·rw [dF h];exact .inl rfl
theorem Zh {p:GPermitPlan} {A:AO} {s:Str}:((qg p A).es s).Ap=(A.es s).Ap:=by
 unfold qg wK
 simp only []
 cases kH p s with
 | false=>rfl
 | true=>rw [nC];cases (decide ((A.es s).state≤3)&&decide ((A.es s).Ap≤A.now)) <;> rfl
theorem Zi {p:GPermitPlan} {A:AO} {s:Str} (hs:kH p s=true) (h:stA (qg p A) s≤3):A.now<(A.es s).Ap:=by
 unfold stA qg wK at h
 simp only [] at h
 rw [hs,nC] at h
 by_cases h3:(A.es s).state≤3
 ·rw [dT h3] at h
  by_cases h1:(A.es s).Ap≤A.now
  ·rw [dT h1] at h;simp at h
  ·omega
 ·rw [dF h3] at h;simp at h;omega
theorem Kt {p:GPermitPlan} {A:AO} {s:Str}:(stA (uQ p A) s=stA A s∧¬ (kH p s=true∧stA A s=2∧vz p A (qo p s)=true))∨(stA (uQ p A) s=3∧stA A s=2∧vz p A (qo p s)=true):=by
 have e:stA (uQ p A) s=(bif kH p s&&decide (stA A s=2)&&vz p A (qo p s) then ({ A.es s with state:=3 }:ah) else A.es s).state:=rfl
 rw [e]
 cases h1:kH p s with
 | false=>exact .inl ⟨rfl,fun h=>by cases h.1⟩
 | true =>
  by_cases h2:stA A s=2
  ·rw [dT h2]
   cases h3:vz p A (qo p s) with
   | false=>exact .inl ⟨rfl,fun h=>by cases h.2.2⟩
   | true=>exact .inr ⟨rfl,h2,rfl⟩
  ·rw [dF h2];exact .inl ⟨rfl,fun h=>h2 h.2.1⟩
theorem Zj {p:GPermitPlan} {A:AO} {s:Str}:((uQ p A).es s).Ap=(A.es s).Ap:=by
 unfold uQ
 simp only []
 cases (kH p s&&decide (stA A s=2)&&vz p A (qo p s)) <;> rfl
theorem Cf {p:GPermitPlan} {A:AO} {s:Str}:stA (eX p A) s=stA A s∨((stA (eX p A) s=6∨stA (eX p A) s=3)∧stA A s≤3):=by
 unfold eX
 rcases Kt (p:=p) (A:=qg p A) (s:=s) with ⟨h1,_⟩ | ⟨h1,h2,_⟩
 ·rw [h1];rcases QS (p:=p) (A:=A) (s:=s) with h | h
  ·exact .inl h
  ·exact .inr ⟨.inl h.1,h.2.1⟩
 ·refine .inr ⟨.inr h1,?_⟩
  rcases QS (p:=p) (A:=A) (s:=s) with h | h
  ·rw [← h,h2];decide
  ·exact h.2.1
theorem Md {p:GPermitPlan} {A:AO} {s:Str}:((eX p A).es s).Ap=(A.es s).Ap:=Zj.trans Zh
theorem WA.settle {p:GPermitPlan} {d:List GEvent} {A:AO} (h:WA p d A):WA p d (eX p A) :=
 h.le (fun s=>(Cf (p:=p) (A:=A) (s:=s)).imp id fun ⟨h1,_⟩=>by rcases h1 with h1 | h1 <;> rw [h1] <;> decide) (fun s=>Md) ⟨Int.le_refl _,h.tm.2⟩ h.pp (fun s t e=>.inl e) h.pl
theorem Pq {p:GPermitPlan} (hp:EX p) {A:AO} {x:aG} (hx:x ∈ p.aB) (hk:x.Kind=5):vz p A x=false:=by
 have h1:En p x=[]:=by unfold En Et;rw [hk];rfl
 have h2:x.Locks=[]:=by
  cases hl:x.Locks with
  | nil=>rfl
  | cons l r=>exact absurd hk (hp.lk x hx l (by rw [hl];exact List.mem_cons_self)).2.2
 unfold vz DR EY
 rw [h1,h2];rfl
theorem Xl {A:AO} {x:aG}:(EY A x).isEmpty=true↔∀ l ∈ x.Locks,stA A l=2:=by
 unfold EY
 rw [List.isEmpty_iff,List.filter_eq_nil_iff]
 constructor
 ·intro h l hl;have:=h l hl;simpa using this
 ·intro h l hl;rw [h l hl];decide
theorem Eu {p:GPermitPlan} (hp:EX p) {A:AO} {x:aG} (hx:x ∈ p.aB) (h2:stA (eX p A) x.Name=2):vz p (eX p A) x=false:=by
 unfold eX at h2 ⊢
 have hh:kH p x.Name=true:=yR.2 ⟨x,hx,rfl⟩
 rcases Kt (p:=p) (A:=qg p A) (s:=x.Name) with ⟨h,hn⟩ | ⟨h,_⟩
 ·rw [h] at h2
  have hb:vz p (qg p A) x=false:=by
   rw [hp.FP hx] at hn
   cases hb:vz p (qg p A) x with
   | false=>rfl
   | true=>exact absurd ⟨hh,h2,hb⟩ hn
  unfold vz at hb ⊢
  rw [Bool.or_eq_false_iff] at hb ⊢
  refine ⟨hb.1,?_⟩
  have hb2:=hb.2
  rw [Bool.not_eq_false',Xl] at hb2 ⊢
  intro l hl
  obtain ⟨h5,h6,_⟩:=hp.lk x hx l hl
  rcases Kt (p:=p) (A:=qg p A) (s:=l) with ⟨h7,_⟩ | ⟨_,_,h7⟩
  ·rw [h7];exact hb2 l hl
  ·rw [Pq hp (uP h5).1 h6] at h7;cases h7
 ·rw [h] at h2;cases h2
theorem TV {p:GPermitPlan} {A:AO} {s:Str} (hs:kH p s=true) (h:stA (eX p A) s≤3):A.now<((eX p A).es s).Ap:=by
 rw [Md]
 unfold eX at h
 refine Zi hs ?_
 rcases Kt (p:=p) (A:=qg p A) (s:=s) with ⟨h1,_⟩ | ⟨h1,h2,_⟩
 ·rw [h1] at h;exact h
 ·rw [h2];decide
theorem Dx {p:GPermitPlan} (hp:EX p) {d:List GEvent} {A:AO} (h:WA p d A):IK p { eX p A with done:=d } :=
 ⟨⟨h.settle.st,h.settle.fr,h.settle.ex,h.settle.tm,h.settle.to,h.settle.pp,h.settle.tt,h.settle.pl⟩,fun x hx e=>Eu hp (A:=A) hx e,fun x hx e=>TV (A:=A) (yR.2 ⟨x,hx,rfl⟩) e⟩
theorem Xm {p:GPermitPlan} {A:AO} {x:aG} (h:Kq p A x=[]):x.From≤A.now∧∀ y ∈ p.aB,stA A y.Name=2→sZ p y x=false:=by
 unfold Kq at h
 obtain ⟨h1,h2⟩:=List.append_eq_nil_iff.1 h
 constructor
 ·by_cases hf : A.now < x.From
  ·rw [dT hf] at h1;cases h1
  ·omega
 ·intro y hy e
  rw [List.filter_eq_nil_iff] at h2
  have:=h2 (⟨20,kD p A (fun y=>sZ p y x)⟩:bW) (by simp)
  have h3:kD p A (fun y=>sZ p y x)=[]:=by simpa using this
  unfold kD at h3
  rw [List.map_eq_nil_iff,List.filter_eq_nil_iff] at h3
  have:=h3 y hy
  rw [dT e] at this
  simpa using this
theorem Sj {q:Str×Str} {n s:Str}:∀ {l:List (Str×Str)},q ∈ HY l n s→q=(n,s)∨q ∈ l
 | [],h=>by simpa [HY] using h
 | a :: r,h=>by
  unfold HY at h
  cases hd:decide (a.1<n) with
  | false=>rw [hd,lI] at h;simpa using h
  | true =>
   rw [hd,nC] at h
   rcases List.mem_cons.1 h with rfl | h
   ·exact .inr List.mem_cons_self
   ·exact (Sj h).imp id fun h=>List.mem_cons_of_mem _ h
theorem Sl {n s:Str}:∀ {l:List (Str×Str)},(HY l n s).length=l.length+1
 | []=>rfl
 | a :: r=>by
  unfold HY
  cases decide (a.1<n) with
  | true=>rw [nC,List.length_cons,Sl,List.length_cons]
  | false=>rfl
theorem Ku {n s : Str} : ∀ {l : List (Str × Str)}, (l.any fun q => decide (q.1 = n)) = false → l.Pairwise (fun a b => a.1 < b.1) → (HY l n s).Pairwise (fun a b => a.1 < b.1)
  | [],_,_=>by simp [HY]
  | a :: r,hn,h=>by
    rw [List.any_cons,Bool.or_eq_false_iff,decide_eq_false_iff_not] at hn
    rw [List.pairwise_cons] at h
    unfold HY
    cases hd:decide (a.1<n) with
    | false =>
      rw [lI,List.pairwise_cons]
      rw [decide_eq_false_iff_not] at hd
      have hlt:n<a.1:=by
        rcases List.le_iff_lt_or_eq.1 (show n≤a.1 from hd) with h1 | h1
        · exact h1
        · exact absurd h1.symm hn.1
      refine ⟨fun q hq=>?_,List.pairwise_cons.2 h⟩
      rcases List.mem_cons.1 hq with rfl | hq
      · exact hlt
      · exact List.lt_trans hlt (h.1 q hq)
    | true =>
      rw [decide_eq_true_eq] at hd
      rw [nC,List.pairwise_cons]
      refine ⟨fun q hq=>?_,Ku hn.2 h.2⟩
      rcases Sj hq with rfl | hq
      · exact hd
      · exact h.1 q hq
def StepA (p:GPermitPlan) (A:AO) (x:GEvent) (r:AO×List Str×Int):Prop :=
 (r.2.2≠0→r.1=A)∧(∀ d,WA p d A→WA p (d ++ [x]) r.1)∧r.1.now=A.now∧r.1.done=A.done ∧
 (∀ s,stA A s ≥ 4→stA r.1 s=stA A s)∧(∀ s,stA r.1 s=2→stA A s≠2→(x.Op=2∨x.Op=4)∧x.Name=s∧r.2.2=0)
theorem oI {p:GPermitPlan} {A:AO} {x:GEvent} {e:Int} {l:List Str}:StepA p A x (vT A e l) :=
 ⟨fun _=>rfl,fun d h=>h.snoc,rfl,rfl,fun _ _=>rfl,fun s h1 h2=>absurd h1 h2⟩
theorem step_up {p:GPermitPlan} {A:AO} {x:GEvent} {n:Str} {e:ah} (h4:stA A n≤3) (he:0≤e.state∧e.state≤6) (h2:∀ d,WA p d A→e.state=2→∀ x ∈ p.aB,x.Name=n→x.From≤A.now∧∀ y ∈ p.aB,stA A y.Name=2→sZ p x y=false) (ht:e.Ap=(A.es n).Ap∨(x.Op=11∧x.Name=n∧x.To=e.Ap)) (ho:e.state=2→stA A n≠2→(x.Op=2∨x.Op=4)∧x.Name=n):StepA p A x (Ce (Wu A n e)):=by
 refine ⟨fun h=>absurd rfl h,fun d h=>?_,rfl,rfl,fun s hs=>?_,fun s h1 hne=>?_⟩
 ·exact h.snoc.up he (fun e2=>h2 d h e2) (ht.imp id fun ⟨a,b,c⟩=>⟨x,List.mem_append_right _ (List.mem_singleton_self _),a,b,c⟩)
 ·show stA (Wu A n e) s=_
  rw [Mc]
  split
  ·rename_i h;subst h;omega
  ·rfl
 ·have h1':stA (Wu A n e) s=2:=h1
  rw [Mc] at h1'
  split at h1'
  ·rename_i h;subst h;exact ⟨(ho h1' hne).1,(ho h1' hne).2,rfl⟩
  ·exact absurd h1' hne
theorem NK {p:GPermitPlan} {A:AO} {x:GEvent} {n:Str} {k:Int} (h4:stA A n≤3) (hk:0≤k∧k≤6) (h2:k≠2):StepA p A x (Ce (VF A n k)) :=
 step_up h4 hk (fun d _ e=>absurd e h2) (.inl rfl) (fun e=>absurd e h2)
theorem EQ {p:GPermitPlan} {A A':AO} {x:GEvent} (he:A'.es=A.es) (hn:A'.now=A.now) (hd:A'.done=A.done) (hp:A.pp.Pairwise (fun a b=>a.1<b.1)→A'.pp.Pairwise (fun a b=>a.1<b.1)) (hq:0≤A.now∧A.now≤1000000→∀ s t,A'.ts s=some t→A.ts s=some t∨(0≤t.at_∧t.at_≤1000000)) (hl:A'.pp.length≤A.pp.length+1):StepA p A x (Ce A'):=by
 have hs:∀ s,stA A' s=stA A s:=fun s=>by unfold stA;rw [he]
 refine ⟨fun h=>absurd rfl h,fun d h=>?_,hn,hd,fun s _=>hs s,fun s h1 h2=>absurd ((hs s).symm.trans h1) h2⟩
 exact h.snoc.le (fun s=>.inl (hs s)) (fun s=>by show (A'.es s).Ap=_;rw [he]) ⟨by show A.now≤A'.now;omega,by have:=h.tm;show A'.now≤_;omega⟩ (hp h.pp) (hq h.tm) (by have:=h.pl;rw [List.length_append];simp only [List.length_singleton];show A'.pp.length≤_;omega)
theorem Kv {p:GPermitPlan} (hp:EX p) {A:AO} {x:GEvent} (ho:x.Op=2∨x.Op=4) (h4:stA A x.Name≤3) (hh:kH p x.Name=true):StepA p A x (Bv p A x):=by
 unfold Bv
 cases kL x.Person with
 | false=>exact oI
 | true =>
  cases decide (x.Person=(A.es x.Name).Gi) with
  | true=>exact oI
  | false =>
   simp only [Bool.not_true,lI]
   cases hw:Kq p A (qo p x.Name) with
   | cons r l=>exact oI
   | nil =>
    refine step_up h4 (by simp) (fun d hd _ y hy hn=>?_) (.inl rfl) (fun _ _=>⟨ho,rfl⟩)
    have hy2:qo p x.Name=y:=by rw [← hn];exact hp.FP hy
    rw [hy2] at hw
    obtain ⟨h1,h2⟩:=Xm hw
    exact ⟨h1,fun z hz e=>by rw [FT];exact h2 z hz e⟩
theorem Kw {p:GPermitPlan} (hp:EX p) {A:AO} {x:GEvent} (h0:0≤x.Op) (h12:x.Op<12):StepA p A x (Ep p A x):=by
  have hop:x.Op=0∨x.Op=1∨x.Op=2∨x.Op=3∨x.Op=4∨x.Op=5∨x.Op=6∨x.Op=7∨x.Op=8∨x.Op=9∨x.Op=10∨x.Op=11:=by omega
  have acts:∀ {l:List Int} {R:AO×List Str×Int},(∀ k ∈ l,k≤3)→(kH p x.Name=true→stA A x.Name ∈ l→stA A x.Name≤3→StepA p A x R)→StepA p A x (bif !kH p x.Name then vT A 6 [] else bif !l.contains (stA A x.Name) then vT A 18 [] else R):=by
    intro l R hl hR
    cases hh:kH p x.Name with
    | false=>exact oI
    | true =>
      cases hc:l.contains (stA A x.Name) with
      | false=>exact oI
      | true =>
        have hm:stA A x.Name ∈ l:=by simpa using hc
        exact hR hh hm (hl _ hm)
  unfold Ep AZ Fb
  rcases hop with h | h | h | h | h | h | h | h | h | h | h | h <;> simp only [h,if_true,if_false,Int.reduceEq]
  · exact EQ rfl rfl rfl id (fun _ s t e=>.inl e) (Nat.le_succ _)
  · refine acts (by decide) fun hh hm h4 => ?_
    unfold GK
    cases kL x.Person with
    | false=>exact oI
    | true=>exact step_up h4 (by simp) (fun _ _ e=>by cases e) (.inl rfl) (fun e=>by cases e)
  · exact acts (by decide) fun hh hm h4=>Kv hp (.inl h) h4 hh
  · exact acts (by decide) fun hh hm h4=>NK h4 (by decide) (by decide)
  · exact acts (by decide) fun hh hm h4=>Kv hp (.inr h) h4 hh
  · refine acts (by decide) fun hh hm h4 => ?_
    unfold ER
    simp only []
    cases (decide ((qo p x.Name).Kind=5) && !(kD p A (fun z=>GU z.Locks (qo p x.Name).Name)).isEmpty) with
    | true=>exact oI
    | false =>
      rw [lI]
      cases (decide ((qo p x.Name).Kind=1)&&decide (stA A (qo p x.Name).Name=2)&&(xQ p (qo p x.Name).Space).dX&&(kD p A (fun z=>decide (z.Kind=1)&&decide (z.Space=(qo p x.Name).Space) && !decide (z.Name=(qo p x.Name).Name))).isEmpty && !(Ak A (fun s=>decide (s=(qo p x.Name).Space))).isEmpty) with
      | true=>exact oI
      | false=>exact NK h4 (by decide) (by decide)
  · exact acts (by decide) fun hh hm h4=>NK h4 (by decide) (by decide)
  · unfold Xn
    cases zC p x.Space with
    | false=>exact oI
    | true =>
      cases (decide (x.vH<0)||decide (1000<x.vH)||decide (x.Ot<0)||decide (1000<x.Ot)) with
      | true=>exact oI
      | false =>
        refine EQ rfl rfl rfl id (fun hn s t e=>?_) (Nat.le_succ _)
        simp only [] at e
        cases hd:decide (s=x.Space) with
        | true=>rw [hd,nC] at e;cases e;exact .inr hn
        | false=>rw [hd,lI] at e;exact .inl e
  · unfold NM
    cases kL x.Person with
    | false=>exact oI
    | true =>
      cases zC p x.Space with
      | false=>exact oI
      | true =>
        cases hi:Dy A x.Person with
        | true=>exact oI
        | false =>
          simp only [Bool.not_true,lI]
          cases ((xQ p x.Space).dX && !zD p A x.Space) with
          | true=>exact oI
          | false =>
            rw [lI]
            cases (!(kD p A (fun y=>decide (y.Kind=3)&&decide (oN p y.Space x.Space≤1))).isEmpty) with
            | true=>exact oI
            | false=>exact EQ rfl rfl rfl (fun hpp=>Ku hi hpp) (fun _ s t e=>.inl e) (Nat.le_of_eq Sl)
  · unfold NP
    cases kL x.Person with
    | false=>exact oI
    | true =>
      cases Dy A x.Person with
      | false=>exact oI
      | true=>exact EQ rfl rfl rfl (fun hpp=>hpp.filter _) (fun _ s t e=>.inl e) (Nat.le_succ_of_le (List.length_filter_le _ _))
  · unfold NQ
    cases zC p x.Space with
    | false=>exact oI
    | true =>
      simp only [Bool.not_true,lI]
      have hs:∀ s,stA { A with es:=fun s=>bif kH p s&&decide (stA A s=2)&&(!decide ((qo p s).Kind=5)&&decide (oN p (qo p s).Space x.Space≤1)) then { A.es s with state:=3 } else A.es s } s=stA A s∨(stA { A with es:=fun s=>bif kH p s&&decide (stA A s=2)&&(!decide ((qo p s).Kind=5)&&decide (oN p (qo p s).Space x.Space≤1)) then { A.es s with state:=3 } else A.es s } s=3∧stA A s=2):=by
        intro s
        unfold stA
        simp only []
        cases kH p s with
        | false=>exact .inl rfl
        | true =>
          by_cases h2:(A.es s).state=2
          · rw [dT h2]
            cases (!decide ((qo p s).Kind=5)&&decide (oN p (qo p s).Space x.Space≤1)) with
            | false=>exact .inl rfl
            | true=>exact .inr ⟨rfl,h2⟩
          · rw [dF h2];exact .inl rfl
      refine ⟨fun h=>absurd rfl h,fun d hd=>?_,rfl,rfl,fun s h4=>?_,fun s h1 h2=>?_⟩
      · refine hd.snoc.le (fun s => (hs s).imp id fun h => by show _ ∧ _ ∧ _; rw [show stA (Ce _).1 s = 3 from h.1]; decide) (fun s => ?_) ⟨Int.le_refl _, hd.tm.2⟩ hd.pp (fun s t e => .inl e) hd.snoc.pl
        show (bif _ then ({ A.es s with state:=3 }:ah) else A.es s).Ap=_
        cases (kH p s&&decide (stA A s=2)&&(!decide ((qo p s).Kind=5)&&decide (oN p (qo p s).Space x.Space≤1))) <;> rfl
      · rcases hs s with h | h
        · exact h
        · omega
      · rcases hs s with h | h
        · exact absurd (h.symm.trans h1) h2
        · exact absurd h.2 h2
  · refine acts (by decide) fun hh hm h4 => ?_
    unfold Ja
    cases kL x.Person with
    | false=>exact oI
    | true =>
      cases (decide (x.To≤(A.es x.Name).Ap)||decide (1000000<x.To)) with
      | true=>exact oI
      | false =>
        have hm':stA A x.Name=1∨stA A x.Name=2∨stA A x.Name=3:=by simpa using hm
        refine step_up h4 ⟨?_,?_⟩ (fun d hd e y hy hn=>?_) (.inr ⟨h,rfl,rfl⟩) (fun e hne=>absurd e hne)
        · show 0≤stA A x.Name;omega
        · show stA A x.Name≤6;omega
        · have e':stA A x.Name=2:=e
          rw [← hn] at e'
          exact ⟨hd.fr y hy e',fun z hz e2=>hd.ex y hy z hz e' e2⟩
theorem VB {p:GPermitPlan} (hp:EX p) {A:AO} {x:GEvent} (h:IK p A):IK p (wu p A x).1∧A.now≤(wu p A x).1.now∧(∀ s,stA A s ≥ 4→stA (wu p A x).1 s=stA A s)∧(∀ s,stA (wu p A x).1 s=2→stA A s≠2→(x.Op=2∨x.Op=4)∧x.Name=s∧(wu p A x).2.2=0):=by
  unfold wu
  by_cases hr:x.Op<0∨12≤x.Op∨x.At<0∨1000000<x.At
  · have hr' : (decide (x.Op < 0) || decide (12 ≤ x.Op) || decide (x.At < 0) || decide (1000000 < x.At)) = true := by simpa [or_assoc] using hr
    rw [hr']
    exact ⟨h,Int.le_refl _,fun _ _=>rfl,fun s h1 h2=>absurd h1 h2⟩
  · have hr' : (decide (x.Op < 0) || decide (12 ≤ x.Op) || decide (x.At < 0) || decide (1000000 < x.At)) = false := by simp; omega
    rw [hr',lI]
    by_cases ho:x.At<A.now
    · rw [dT ho];exact ⟨h,Int.le_refl _,fun _ _=>rfl,fun s h1 h2=>absurd h1 h2⟩
    rw [dF ho,lI]
    have hw:WA p A.done { A with now:=x.At }:=h.w.le (fun s=>.inl rfl) (fun _=>rfl) ⟨by show A.now≤x.At;omega,by show x.At≤1000000;omega⟩ h.w.pp (fun s t e=>.inl e) h.w.pl
    have hi:=Dx hp hw
    have hset:∀ s,stA (eX p { A with now:=x.At }) s=stA A s∨((stA (eX p { A with now:=x.At }) s=6∨stA (eX p { A with now:=x.At }) s=3)∧stA A s≤3):=fun s=>Cf (p:=p) (A:={ A with now:=x.At }) (s:=s)
    obtain ⟨s1,s2,s3,s4,s5,s6⟩:=Kw hp (A:=eX p { A with now:=x.At }) (x:=x) (by omega) (by omega)
    generalize hR:Ep p (eX p { A with now:=x.At }) x=R at s1 s2 s3 s4 s5 s6
    simp only []
    by_cases h0:R.2.2=0
    · rw [dT h0,nC]
      have hw2:=s2 _ hi.w
      refine ⟨Dx hp (d:=A.done ++ [x]) hw2,?_,fun s hs=>?_,fun s h1 h2=>?_⟩
      · show A.now≤R.1.now
        rw [s3];show A.now≤x.At;omega
      · show stA (eX p R.1) s=stA A s
        have e1:stA (eX p { A with now:=x.At }) s=stA A s:=by
          rcases hset s with e | ⟨_,e⟩
          · exact e
          · omega
        have e2:=s5 s (by omega)
        rcases Cf (p:=p) (A:=R.1) (s:=s) with e | ⟨_,e⟩ <;> omega
      · have h1':stA (eX p R.1) s=2:=h1
        have e2:stA R.1 s=2:=by
          rcases Cf (p:=p) (A:=R.1) (s:=s) with e | ⟨e,_⟩ <;> omega
        have e3:stA (eX p { A with now:=x.At }) s≠2:=by
          rcases hset s with e | ⟨e,_⟩ <;> omega
        obtain ⟨a,b,c⟩:=s6 s e2 e3
        exact ⟨a,b,rfl⟩
    · rw [dF h0,lI]
      have hB:=s1 h0
      rw [hB]
      refine ⟨hi,?_,fun s hs=>?_,fun s h1 h2=>?_⟩
      · show A.now≤x.At;omega
      · rcases hset s with e | ⟨_,e⟩
        · exact e
        · omega
      · exfalso
        rcases hset s with e | ⟨e,_⟩ <;> omega
theorem Xo {p:GPermitPlan} (hp:EX p):IK p (FO p):=by
 refine Dx hp (d:=[]) (A:=⟨0,fun s=>bif kH p s then ⟨0,[],(qo p s).To⟩ else ⟨0,[],0⟩,fun _=>none,[],[]⟩) ⟨fun s=>?_,fun x hx e=>?_,fun x hx y hy e=>?_,(by simp),fun x hx=>?_,List.Pairwise.nil,(fun s t e=>by cases e),Nat.le_refl _⟩
 ·unfold stA;simp only [];cases kH p s <;> simp
 ·exfalso;unfold stA at e;simp only [] at e;cases hh:kH p x.Name <;> rw [hh] at e <;> cases e
 ·exfalso;unfold stA at e;simp only [] at e;cases hh:kH p x.Name <;> rw [hh] at e <;> cases e
 ·refine .inl ?_
  simp only []
  rw [yR.2 ⟨x,hx,rfl⟩,nC,hp.FP hx]
end Go.KB
namespace Go.KB
set_option linter.unusedVariables false
theorem Cb {S O:Type} {n N:Nat} {f:S→Option (S ⊕ O)} (I:Nat→S→Prop) (Q:O→Prop) {s0:S} (h0:I 0 s0) (h:∀ i s,i<n→I i s→∃ s',f s=some (.inl s')∧I (i+1) s') (he:∀ s,I n s→∃ o,f s=some (.inr o)∧Q o) (hN:n<N):∃ o,dB f N s0=some o∧Q o:=by
 have key:∀ k i s,i+k=n→I i s→∀ M,k<M→∃ o,dB f M s=some o∧Q o:=by
  intro k
  induction k with
  | zero =>
   intro i s hi hs M hM
   obtain ⟨M,rfl⟩:∃ m,M=m+1:=⟨M - 1,by omega⟩
   have:i=n:=by omega
   subst this
   obtain ⟨o,h1,h2⟩:=he s hs
   exact ⟨o,by simp only [dB,h1],h2⟩
  | succ k ih =>
   intro i s hi hs M hM
   obtain ⟨M,rfl⟩:∃ m,M=m+1:=⟨M - 1,by omega⟩
   obtain ⟨s',h1,h2⟩:=h i s (by omega) hs
   simp only [dB,h1]
   exact ih (i+1) s' (by omega) h2 M (by omega)
 exact key n 0 s0 (by omega) h0 N (by omega)
theorem ES {α β:Type} [DecidableEq α] (x k:α) (y:β):∀ m:List (α×β),mJ (oZ m x y) k=(decide (k=x)||mJ m k)
 | []=>by simp [mJ,oZ]
 | q :: r=>by
  unfold oZ
  by_cases h:x=q.1
  ·rw [dT h,nC];unfold mJ;rw [← h];cases decide (k=x) <;> simp
  ·rw [dF h,lI];unfold mJ;rw [ES x k y r]
   cases decide (k=q.1) <;> cases decide (k=x) <;> rfl
structure Ky (p:GPermitPlan) (es:Str→ah) (st:List (Str×ah)):Prop where
 get:∀ s,kH p s=true→iC (⟨0,[],0⟩:ah) st s=es s
 has:∀ s,mJ st s=kH p s
theorem Ky.set {p:GPermitPlan} {es:Str→ah} {st:List (Str×ah)} (h:Ky p es st) {n:Str} (hn:kH p n=true) (e:ah):Ky p (fun s=>bif decide (s=n) then e else es s) (oZ st n e):=by
 refine ⟨fun s hs=>?_,fun s=>?_⟩
 ·rw [Cj]
  by_cases he:s=n
  ·rw [if_pos he,dT he];rfl
  ·rw [if_neg he,dF he];exact h.get s hs
 ·rw [ES,h.has]
  by_cases he:s=n
  ·rw [dT he,he,hn];rfl
  ·rw [dF he];rfl
theorem Ky.congr {p:GPermitPlan} {es es':Str→ah} {st:List (Str×ah)} (h:Ky p es st) (he:∀ s,kH p s=true→es s=es' s):Ky p es' st:=⟨fun s hs=>by rw [h.get s hs,he s hs],h.has⟩
structure RelB (p:GPermitPlan) (A:AO) (g:af) (lH:List (Str×ai)):Prop where
 plan:g.plan=p
 now:g.now=A.now
 Kz:∀ s,mJ lH s=(A.ts s).isSome
 KA:∀ s t,A.ts s=some t→iC (⟨0,0,0⟩:ai) lH s=t
structure RelA (p:GPermitPlan) (A:AO) (g:af) (st:List (Str×ah)) (lH:List (Str×ai)) (pe:List (Str×Str)):Prop where
 b:RelB p A g lH
 st:Ky p A.es st
 pe:pe.Perm A.pp
 done:g.done=A.done
structure KC (A:AO):Prop where
 tm:0≤A.now∧A.now≤1000000
 st:∀ s,0≤stA A s∧stA A s≤6
 tt:∀ s t,A.ts s=some t→0≤t.at_∧t.at_≤1000000
 pl:A.pp.length<1000000
theorem WA.bd {p:GPermitPlan} {d:List GEvent} {A:AO} (h:WA p d A) (hd:d.length<1000000):KC A:=⟨h.tm,h.st,h.tt,Nat.lt_of_le_of_lt h.pl hd⟩
section
variable {N:Nat} {p:GPermitPlan} {A:AO} {g:af} {st:List (Str×ah)} {lH:List (Str×ai)} {pe:List (Str×Str)} (hp:EP p) (hN:1000000≤N) (h:RelB p A g lH) (b:KC A)
include hp hN h b
theorem Xp {s:Str}:oV N g st lH pe s=some (RZ p A s,RY p A s):=by
 have hs:=hp.s
 unfold oV RZ RY
 rw [h.plan,wX (by omega) hN,bS,h.Kz s,h.now]
 show (bif !(xQ p s).dX then _ else _)=_
 cases (xQ p s).dX with
 | false=>rfl
 | true =>
  simp only [Bool.not_true,lI]
  cases ht:A.ts s with
  | none=>rfl
  | some t =>
   have h1:=b.tt s t ht
   have h2:=b.tm
   rw [h.KA s t ht,w64i (by omega) (by omega)]
   simp only [Option.isSome_some,Bool.true_and,xI,yC]
theorem Iw {x:aG} {s:Str}:kP N g st lH pe s x=some (Fa p A x s):=by
 unfold kP Fa
 rw [Xp hp hN h b,bS,qR]
 cases decide (x.Kind=0) <;> rfl
theorem KD {x:aG}:lC N g st lH pe x=some (DR p A x):=by
 have hl:=VH (x:=x) hp
 unfold lC
 rw [h.plan,VI hp hN,bS]
 have hi:fH N g st lH pe (En p x) x=some (IL (Fa p A x) (En p x)):=by
  unfold fH
  refine wz (fun i hi=>?_) ?_ (by omega)
  ·unfold eG
   rw [bT,dT (by omega),nC,iU hi,bS,Iw hp hN h b,bS,qy (by omega)]
  ·unfold eG
   rw [bT,dF (by omega),lI]
 have hd:fC N g st lH pe (En p x) x=some (DR p A x):=by
  unfold fC
  rw [hi,bS]
  refine del_eq (g:=Fa p A x) (fun xs i j hj hij hj2 hm=>?_) (fun xs i=>?_) (by omega) hN
  ·unfold eu
   simp only []
   rw [bT,dT (by omega),nC,iU hj,bS,Iw hp hN h b,bS,qy (by omega),qy (by omega),iU (by omega),bS,Int.toNat_natCast]
  ·unfold eu
   simp only []
   rw [bT,dF (by omega),lI]
 rw [hd];rfl
end
theorem FU {N:Nat} {p:GPermitPlan} {A:AO} {g:af} {st:List (Str×ah)} {lH:List (Str×ai)} {pe:List (Str×Str)} (hN:1000000≤N) (hst:Ky p A.es st) {n:Str} {l:List Int} (hn:kH p n=true) (hl:l.length<100):dJ N g st lH pe n l=some (l.contains (stA A n)):=by
 unfold dJ
 rw [KF (by omega) hN,bS,hst.get n hn];rfl
theorem Iy {N:Nat} {p:GPermitPlan} {A:AO} {g:af} {st:List (Str×ah)} {lH:List (Str×ai)} {pe:List (Str×Str)} (hp:EP p) (hN:1000000≤N) (hst:Ky p A.es st) {x:aG} (hx:x.Locks.length<1000) (hlk:∀ l ∈ x.Locks,kH p l=true):jU N g st lH pe x=some (EY A x):=by
 have hlim:lim ≥ 1000000:=by decide
 unfold jU
 have hc:fJ N x.Locks=some x.Locks:=by
  unfold fJ
  rw [FN (by simp only [List.length_nil];omega)];rfl
 rw [hc,bS]
 have h1:∀ s,jy N g st lH pe s=some (decide (stA A s=2))∨¬ kH p s=true:=by
  intro s
  by_cases hs:kH p s=true
  ·left
   unfold jy
   rw [FU hN hst hs (by decide),bS]
   congr 1
   rw [Bool.eq_iff_iff];simp
  ·exact .inr hs
 have h2:∀ s ∈ x.Locks,jy N g st lH pe s=some (decide (stA A s=2)):=fun s hs=>(h1 s).elim id fun hn=>absurd (hlk s hs) hn
 have hi:fD N g st lH pe x.Locks=some (IL (fun s=>decide (stA A s=2)) x.Locks):=by
  unfold fD
  refine wz (fun i hi=>?_) ?_ (by omega)
  ·unfold eF
   rw [bT,dT (by omega),nC,iU hi,bS,h2 _ (List.getElem_mem hi),bS,qy (by omega)]
  ·unfold eF
   rw [bT,dF (by omega),lI]
 unfold gJ
 rw [hi,bS,del_eq (g:=fun s=>decide (stA A s=2)) (f:=dG N g st lH pe) (fun xs i j hj hij hj2 hm=>?_) (fun xs i=>?_) (by omega) hN]
 ·rfl
 ·unfold dG
  simp only []
  rw [bT,dT (by omega),nC,iU hj,bS,h2 _ hm,bS,qy (by omega),qy (by omega),iU (by omega),bS,Int.toNat_natCast]
 ·unfold dG
  simp only []
  rw [bT,dF (by omega),lI]
def FV (p:GPermitPlan) (i:Nat) (s:Str):Bool:=(p.aB.take i).any (Le s)
theorem Jb {p:GPermitPlan} {s:Str}:FV p p.aB.length s=kH p s:=by unfold FV kH;rw [List.take_length]
theorem GL {p:GPermitPlan} {i:Nat} (hi:i<p.aB.length) {s:Str}:FV p (i+1) s=(FV p i s||decide (p.aB[i].Name=s)):=by
 unfold FV;rw [List.take_succ_eq_append_getElem hi,List.any_append];simp [Le]
theorem Sm {p:GPermitPlan} (ho:EX p) {i:Nat} (hi:i<p.aB.length):FV p i p.aB[i].Name=false:=by
 unfold FV
 rw [Bool.eq_false_iff]
 intro hx
 rw [List.any_eq_true] at hx
 obtain ⟨y,hy,hg⟩:=hx
 obtain ⟨j,hj,rfl⟩:=List.getElem_of_mem hy
 rw [List.length_take] at hj
 rw [List.getElem_take] at hg
 simp only [Le,decide_eq_true_eq] at hg
 have:=ho.pd j i (by omega) hi (by rw [Dw (by omega),Dw hi,hg])
 omega
theorem ET {p:GPermitPlan} {i:Nat} (hi:i<p.aB.length):kH p p.aB[i].Name=true:=yR.2 ⟨_,List.getElem_mem hi,rfl⟩
theorem VJ {N:Nat} {p:GPermitPlan} {A:AO} {g:af} {st:List (Str×ah)} {lH:List (Str×ai)} {pe:List (Str×Str)} (hp:EP p) (ho:EX p) (hN:1000000≤N) (h:RelB p A g lH) (hst:Ky p A.es st) (b:KC A):∃ st',dB (kM N g lH pe) N (0,st)=some st'∧Ky p (qg p A).es st':=by
 have hm:=hp.m
 refine Cb (n:=p.aB.length) (fun i s=>s.1=(i:Int)∧Ky p (fun s=>bif FV p i s then wK A.now (A.es s) else A.es s) s.2) _ ⟨rfl,hst.congr fun s _=>by unfold FV;simp⟩ (fun i s hi hs=>?_) (fun s hs=>?_) (by omega)
 ·obtain ⟨s1,st'⟩:=s
  obtain ⟨rfl,hr⟩:=hs
  simp only [] at hr
  have hn:=ET hi
  have he:(bif FV p i p.aB[i].Name then wK A.now (A.es p.aB[i].Name) else A.es p.aB[i].Name)=A.es p.aB[i].Name:=by rw [Sm ho hi];rfl
  have hg:=hr.get _ hn
  rw [he] at hg
  have hst:=b.st p.aB[i].Name
  unfold stA at hst
  have hc:([0,1,2,3]:List Int).contains (A.es p.aB[i].Name).state=decide ((A.es p.aB[i].Name).state≤3):=by
   rw [Bool.eq_iff_iff];simp;omega
  have hi':dJ N g st' lH pe p.aB[i].Name [0,1,2,3]=some (decide ((A.es p.aB[i].Name).state≤3)):=by
   unfold dJ
   rw [KF (by decide) hN,bS,hg,hc]
  have hnext:∀ (e:ah),e=wK A.now (A.es p.aB[i].Name)→∀ s,kH p s=true→(bif decide (s=p.aB[i].Name) then e else (bif FV p i s then wK A.now (A.es s) else A.es s))=(bif FV p (i+1) s then wK A.now (A.es s) else A.es s):=by
   intro e hee s _
   rw [GL hi]
   by_cases hs:s=p.aB[i].Name
   ·subst hs;rw [dT rfl,Bool.or_true,nC,nC,hee]
   ·rw [dF hs,dF (fun x=>hs x.symm),Bool.or_false];rfl
  unfold kM
  simp only []
  rw [h.plan,bT,dT (by omega),nC,iU hi,bS,hi',bS,hg,xI,h.now,qy (by omega)]
  cases hx:(decide ((A.es p.aB[i].Name).state≤3)&&decide ((A.es p.aB[i].Name).Ap≤A.now)) with
  | true =>
   refine ⟨_,rfl,rfl,?_⟩
   rw [hg]
   exact (hr.set hn _).congr (hnext _ (by unfold wK;rw [hx];rfl))
  | false =>
   refine ⟨_,rfl,rfl,?_⟩
   refine hr.congr fun s hs=>?_
   rw [← hnext _ rfl s hs]
   by_cases he2:s=p.aB[i].Name
   ·subst he2;rw [dT rfl,nC,he];unfold wK;rw [hx];rfl
   ·rw [dF he2];rfl
 ·obtain ⟨s1,st'⟩:=s
  obtain ⟨rfl,hr⟩:=hs
  unfold kM
  simp only []
  rw [h.plan,bT,dF (by omega),lI]
  exact ⟨_,rfl,hr.congr fun s _=>by rw [Jb];rfl⟩
theorem Si {p:GPermitPlan} (ho:EX p) {B:AO} {l:Str} (hl:kH p l=true) (hk:(qo p l).Kind=5):(uQ p B).es l=B.es l:=by
 show (bif kH p l&&decide (stA B l=2)&&vz p B (qo p l) then ({ B.es l with state:=3 }:ah) else B.es l)=_
 rw [Pq ho (uP hl).1 hk,Bool.and_false];rfl
theorem gt0 {α:Type} {l:List α}:aV .gtr (List.length l:Int) 0 = !l.isEmpty:=by
 rw [tH]
 cases l with
 | nil=>rfl
 | cons x r=>simp
theorem Pv {N:Nat} {p:GPermitPlan} {B:AO} {g:af} {st:List (Str×ah)} {lH:List (Str×ai)} {pe:List (Str×Str)} (hp:EP p) (ho:EX p) (hN:1000000≤N) (h:RelB p B g lH) (hst:Ky p B.es st) (b:KC B):∃ o:Bool×List (Str×ah),dB (jK N g lH pe) N (false,0,st)=some o∧Ky p (uQ p B).es o.2∧o.1=p.aB.any (fun x=>decide (stA B x.Name=2)&&vz p B x):=by
 have hm:=hp.m
 refine Cb (n:=p.aB.length) (fun i s=>s.2.1=(i:Int)∧Ky p (fun s=>bif FV p i s then (uQ p B).es s else B.es s) s.2.2∧s.1=(p.aB.take i).any (fun x=>decide (stA B x.Name=2)&&vz p B x)) _ ⟨rfl,hst.congr fun s _=>by unfold FV;simp,by simp⟩ (fun i s hi hs=>?_) (fun s hs=>?_) (by omega)
 ·obtain ⟨fl,s1,st'⟩:=s
  obtain ⟨rfl,hr,rfl⟩:=hs
  simp only [] at hr
  have hx:=List.getElem_mem hi
  have hn:=ET hi
  have he:(bif FV p i p.aB[i].Name then (uQ p B).es p.aB[i].Name else B.es p.aB[i].Name)=B.es p.aB[i].Name:=by rw [Sm ho hi];rfl
  have hg:=hr.get _ hn
  rw [he] at hg
  have hi':dJ N g st' lH pe p.aB[i].Name [2]=some (decide (stA B p.aB[i].Name=2)):=by
   unfold dJ
   rw [KF (by decide) hN,bS,hg]
   congr 1
   unfold stA
   rw [Bool.eq_iff_iff];simp
  have hlk:jU N g st' lH pe p.aB[i]=some (EY B p.aB[i]):=by
   rw [Iy (A:={ B with es:=fun s=>bif FV p i s then (uQ p B).es s else B.es s }) hp hN hr (hp.l _ hx) (fun l hl=>(ho.lk _ hx l hl).1)]
   congr 1
   unfold EY
   refine List.filter_congr fun l hl=>?_
   have:=ho.lk _ hx l hl
   have e:stA { B with es:=fun s=>bif FV p i s then (uQ p B).es s else B.es s } l=stA B l:=by
    show (bif FV p i l then (uQ p B).es l else B.es l).state=_
    rw [Si ho this.1 this.2.1]
    cases FV p i l <;> rfl
   rw [e]
  have hnext:∀ (e:ah),e=(uQ p B).es p.aB[i].Name→∀ s,kH p s=true→(bif decide (s=p.aB[i].Name) then e else (bif FV p i s then (uQ p B).es s else B.es s))=(bif FV p (i+1) s then (uQ p B).es s else B.es s):=by
   intro e hee s _
   rw [GL hi]
   by_cases hs:s=p.aB[i].Name
   ·subst hs;rw [dT rfl,Bool.or_true,nC,nC,hee]
   ·rw [dF hs,dF (fun x=>hs x.symm),Bool.or_false];rfl
  have hsus:(uQ p B).es p.aB[i].Name=(bif decide (stA B p.aB[i].Name=2)&&vz p B p.aB[i] then ({ B.es p.aB[i].Name with state:=3 }:ah) else B.es p.aB[i].Name):=by
   show (bif kH p p.aB[i].Name&&decide (stA B p.aB[i].Name=2)&&vz p B (qo p p.aB[i].Name) then ({ B.es p.aB[i].Name with state:=3 }:ah) else B.es p.aB[i].Name)=_
   rw [hn,ho.FP hx,Bool.true_and]
  have hany:(p.aB.take (i+1)).any (fun x=>decide (stA B x.Name=2)&&vz p B x)=((p.aB.take i).any (fun x=>decide (stA B x.Name=2)&&vz p B x)||(decide (stA B p.aB[i].Name=2)&&vz p B p.aB[i])):=by
   rw [List.take_succ_eq_append_getElem hi,List.any_append];simp
  have hsame:(decide (stA B p.aB[i].Name=2)&&vz p B p.aB[i])=false→Ky p (fun s=>bif FV p (i+1) s then (uQ p B).es s else B.es s) st':=fun hb=>hr.congr fun s hs=>by
   rw [← hnext _ rfl s hs]
   by_cases he2:s=p.aB[i].Name
   ·subst he2;rw [dT rfl,nC,he,hsus,hb];rfl
   ·rw [dF he2];rfl
  have hset:(decide (stA B p.aB[i].Name=2)&&vz p B p.aB[i])=true→Ky p (fun s=>bif FV p (i+1) s then (uQ p B).es s else B.es s) (oZ st' p.aB[i].Name ({ B.es p.aB[i].Name with state:=3 }:ah)):=fun hb =>
   (hr.set hn _).congr (hnext _ (by rw [hsus,hb];rfl))
  unfold jK
  simp only []
  rw [h.plan,bT,dT (by omega),nC,iU hi,bS,hi',bS,qy (by omega),hany]
  by_cases h2:stA B p.aB[i].Name=2
  ·rw [dT h2] at hsame hset ⊢
   simp only [nC,Bool.true_and] at hsame hset ⊢
   rw [KD hp hN h b,bS,gt0]
   unfold vz at hsame hset ⊢
   cases hla:(DR p B p.aB[i]).isEmpty with
   | false =>
    rw [hla] at hset
    simp only [Bool.not_false,Bool.true_or,Bool.or_true,Bool.not_true,lI,nC,bS] at hset ⊢
    refine ⟨_,rfl,rfl,?_,rfl⟩
    rw [hg];exact hset trivial
   | true =>
    rw [hla] at hset hsame
    simp only [Bool.not_false,Bool.false_or,Bool.not_true,nC,hlk,bS,gt0] at hset hsame ⊢
    cases hu:(EY B p.aB[i]).isEmpty with
    | false =>
     rw [hu] at hset
     refine ⟨_,rfl,rfl,?_,by simp⟩
     rw [hg];exact hset rfl
    | true =>
     rw [hu] at hsame
     exact ⟨_,rfl,rfl,hsame rfl,by simp⟩
  ·rw [dF h2] at hsame ⊢
   exact ⟨_,rfl,rfl,hsame rfl,by simp⟩
 ·obtain ⟨fl,s1,st'⟩:=s
  obtain ⟨rfl,hr,rfl⟩:=hs
  unfold jK
  simp only []
  rw [h.plan,bT,dF (by omega),lI]
  exact ⟨_,rfl,hr.congr fun s hs=>by rw [Jb,hs];rfl,by rw [List.take_length]⟩
theorem KC.exp {p:GPermitPlan} {A:AO} (b:KC A):KC (qg p A):=⟨b.tm,fun s=>by
 rcases QS (p:=p) (A:=A) (s:=s) with e | ⟨e,_⟩ <;> rw [e]
 ·exact b.st s
 ·decide,b.tt,b.pl⟩
theorem KC.sus {p:GPermitPlan} {A:AO} (b:KC A):KC (uQ p A):=⟨b.tm,fun s=>by
 rcases Kt (p:=p) (A:=A) (s:=s) with ⟨e,_⟩ | ⟨e,_⟩ <;> rw [e]
 ·exact b.st s
 ·decide,b.tt,b.pl⟩
theorem KC.settle {p:GPermitPlan} {A:AO} (b:KC A):KC (eX p A):=b.exp.sus
theorem H6 {N:Nat} {p:GPermitPlan} {A:AO} {g:af} {st:List (Str×ah)} {lH:List (Str×ai)} {pe:List (Str×Str)} (hp:EP p) (ho:EX p) (hN:1000000≤N) (h:RelB p A g lH) (hst:Ky p A.es st) (b:KC A):∃ st',jL N g st lH pe=some st'∧Ky p (eX p A).es st':=by
 unfold jL
 obtain ⟨s1,h1,r1⟩:=VJ (pe:=pe) hp ho hN h hst b
 rw [h1,bS]
 have hE:RelB p (qg p A) g lH:=⟨h.plan,h.now,h.Kz,h.KA⟩
 have hS:RelB p (eX p A) g lH:=⟨h.plan,h.now,h.Kz,h.KA⟩
 obtain ⟨⟨f2,s2⟩,h2,r2,e2⟩:=Pv (pe:=pe) hp ho hN hE r1 b.exp
 obtain ⟨⟨f3,s3⟩,h3,r3,e3⟩:=Pv (pe:=pe) hp ho hN hS r2 b.settle
 have e3':f3=false:=by
  rw [show f3=_ from e3,Bool.eq_false_iff]
  intro hx
  rw [List.any_eq_true] at hx
  obtain ⟨x,hx,hb⟩:=hx
  rw [Bool.and_eq_true,decide_eq_true_eq] at hb
  rw [Eu ho hx hb.1] at hb
  cases hb.2
 subst e3'
 obtain ⟨M,rfl⟩:∃ M,N=M+3:=⟨N - 3,by omega⟩
 have step:∀ (st:List (Str×ah)) (o:Bool×List (Str×ah)),dB (jK (M+3) g lH pe) (M+3) (false,0,st)=some o→kN (M+3) g lH pe (true,st)=some (.inl o):=by
  intro st o ho
  unfold kN
  rw [nC,ho];rfl
 have stop:∀ st:List (Str×ah),kN (M+3) g lH pe (false,st)=some (.inr st):=fun st=>rfl
 cases f2 with
 | false =>
  refine ⟨s2,?_,r2⟩
  rw [show M+3=(M+2)+1 from rfl]
  simp only [dB,step _ _ h2,stop];rfl
 | true =>
  refine ⟨s3,?_,r3.congr fun s hs=>?_⟩
  ·simp only [dB,step _ _ h2,step _ _ h3,stop];rfl
  ·show (bif kH p s&&decide (stA (eX p A) s=2)&&vz p (eX p A) (qo p s) then ({ (eX p A).es s with state:=3 }:ah) else (eX p A).es s)=_
   by_cases h2:stA (eX p A) s=2
   ·obtain ⟨hm,hnm⟩:=uP hs
    rw [Eu ho hm (by rw [hnm];exact h2),Bool.and_false];rfl
   ·rw [dF h2,Bool.and_false,Bool.false_and];rfl
end Go.KB
namespace Go.KB
set_option linter.unusedVariables false
theorem TW {N:Nat} {l:List bK} {f:bK→Option Bool} {g:bK→Bool} (hf:∀ y,f y=some (g y)) (hl:l.length<1000000) (hN:1000000≤N):gZ N l f=some (IL g l):=by
 unfold gZ
 refine wz (fun i hi=>?_) ?_ (by omega)
 ·unfold gy
  rw [bT,dT (by omega),nC,iU hi,bS,hf,bS,qy (by omega)]
 ·unfold gy
  rw [bT,dF (by omega),lI]
theorem VG {α:Type} {g:α→Bool} {l:List α}:aV .geq (IL g l) 0=l.any g:=by
 have:=Dz (g:=g) (l:=l)
 rw [yC]
 cases h2:l.any g with
 | true=>rw [h2] at this;simp at this;rw [dT (by omega)]
 | false=>rw [h2] at this;simp at this;rw [dF (by omega)]
theorem Iu {N:Nat} {p:GPermitPlan} {x y:aG} (hp:EP p) (hN:1000000≤N):oU N p x y=some (sZ p x y):=by
 have hx:=hp.x
 unfold oU sZ
 rw [qZ,GN hp hN]
 cases decide (x.Name=y.Name) with
 | true=>rfl
 | false =>
  rw [lI,lI,bS]
  unfold iO
  rw [TW (g:=fun e=>exE e (oN p x.Space y.Space) x.Kind y.Kind) (fun e=>by unfold qJ exE;simp only [xI,qR]) (by omega) hN,bS,VG];rfl
theorem cloneS {N:Nat} {l:List dm} (h:l.length<1000):jV N l=some l:=by
 have hlim:lim ≥ 1000000:=by decide
 unfold jV;rw [FN (by simp only [List.length_nil];omega)];rfl
theorem Zk {N:Nat} {l:List aG} (h:l.length<1000):jI N l=some l:=by
 have hlim:lim ≥ 1000000:=by decide
 unfold jI;rw [FN (by simp only [List.length_nil];omega)];rfl
theorem Zl {N:Nat} {l:List bK} (h:l.length<1000):iL N l=some l:=by
 have hlim:lim ≥ 1000000:=by decide
 unfold iL;rw [FN (by simp only [List.length_nil];omega)];rfl
theorem VK {N:Nat} {l:List Str} (h:l.length<1000):fJ N l=some l:=by
 have hlim:lim ≥ 1000000:=by decide
 unfold fJ;rw [FN (by simp only [List.length_nil];omega)];rfl
theorem Px {α:Type} {l:List α} {i:Nat} (h:i<l.length):l.set i l[i]=l:=List.set_getElem_self h
theorem TY {N:Nat} {p:GPermitPlan} (hp:EP p) (hN:1000000≤N):uM N p=some p:=by
 have h1:=hp.s
 have h2:=hp.x
 have h3:=hp.m
 unfold uM
 rw [cloneS h1,Zl h2,Zk h3]
 simp only [bS]
 have e2:dB (nU N p.bP) N (0,p.bP)=some p.bP:=H7 (f:=nU N p.bP) (n:=p.bP.length) (fun i=>((i:Int),p.bP)) p.bP (fun i hi=>by
  unfold nU
  simp only []
  rw [bT,dT (by omega),nC,iU hi,bS,VK (hp.n _ (List.getElem_mem hi)),bS,bS,qy (by omega),Int.toNat_natCast,Px hi]) (by
  unfold nU
  simp only []
  rw [bT,dF (by omega),lI]) (by omega)
 have e1:dB (nV N p.aB) N (0,p.aB)=some p.aB:=H7 (f:=nV N p.aB) (n:=p.aB.length) (fun i=>((i:Int),p.aB)) p.aB (fun i hi=>by
  unfold nV
  simp only []
  rw [bT,dT (by omega),nC,iU hi,bS,VK (hp.l _ (List.getElem_mem hi)),bS,bS,qy (by omega),Int.toNat_natCast,Px hi]) (by
  unfold nV
  simp only []
  rw [bT,dF (by omega),lI]) (by omega)
 rw [e2,e1];rfl
def Xq (p:GPermitPlan):AO:=⟨0,fun s=>bif kH p s then ⟨0,[],(qo p s).To⟩ else ⟨0,[],0⟩,fun _=>none,[],[]⟩
theorem Xr (p:GPermitPlan):KC (Xq p):=⟨⟨by show (0:Int)≤0;omega,by show (0:Int)≤1000000;omega⟩,fun s=>by unfold stA Xq;simp only [];cases kH p s <;> simp,(fun s t e=>by cases e),by show 0<1000000;omega⟩
theorem VL {N:Nat} {p:GPermitPlan} (hp:EP p) (ho:EX p) (hN:1000000≤N):∃ st,dB (nH N p) N (0,([]:List (Str×ah)))=some st∧Ky p (Xq p).es st:=by
 have hm:=hp.m
 have key:∃ st,dB (nH N p) N (0,([]:List (Str×ah)))=some st∧(∀ n,FV p p.aB.length n=true→iC (⟨0,[],0⟩:ah) st n=⟨0,[],(qo p n).To⟩)∧∀ n,mJ st n=FV p p.aB.length n:=by
  refine Cb (N:=N) (n:=p.aB.length) (f:=nH N p) (s0:=(0,([]:List (Str×ah)))) (fun i s=>s.1=(i:Int)∧(∀ n,FV p i n=true→iC (⟨0,[],0⟩:ah) s.2 n=⟨0,[],(qo p n).To⟩)∧∀ n,mJ s.2 n=FV p i n) (fun st=>(∀ n,FV p p.aB.length n=true→iC (⟨0,[],0⟩:ah) st n=⟨0,[],(qo p n).To⟩)∧∀ n,mJ st n=FV p p.aB.length n) ⟨rfl,fun n h=>by unfold FV at h;simp at h,fun n=>by unfold FV;simp [mJ]⟩ (fun i s hi hs=>?_) (fun s hs=>?_) (by omega)
  ·obtain ⟨s1,st⟩:=s
   obtain ⟨rfl,h1,h2⟩:=hs
   simp only [] at h1 h2
   refine ⟨_,by unfold nH;simp only [];rw [bT,dT (by omega),nC,iU hi,bS,qy (by omega)],rfl,fun n hn=>?_,fun n=>?_⟩
   ·simp only []
    rw [Cj]
    by_cases he:n=p.aB[i].Name
    ·rw [if_pos he,he,ho.FP (List.getElem_mem hi)]
    ·rw [if_neg he]
     rw [GL hi,dF (fun x=>he x.symm),Bool.or_false] at hn
     exact h1 n hn
   ·simp only []
    rw [ES,h2,GL hi,Bool.or_comm]
    congr 1
    exact decide_eq_decide.2 ⟨Eq.symm,Eq.symm⟩
  ·obtain ⟨s1,st⟩:=s
   obtain ⟨rfl,h1,h2⟩:=hs
   refine ⟨st,?_,h1,h2⟩
   unfold nH
   simp only []
   rw [bT,dF (by omega),lI]
 obtain ⟨st,h1,h2,h3⟩:=key
 exact ⟨st,h1,fun s hs=>by rw [h2 s (by rw [Jb];exact hs)];show _=(bif kH p s then _ else _);rw [hs];rfl,fun s=>by rw [h3,Jb]⟩
theorem Zm {N:Nat} {p:GPermitPlan} (hp:EP p) (ho:qf p=0) (hN:1000000≤N):∃ st,qX N p=some (some ((⟨p,0,[]⟩:af),st,[],[]),0)∧RelA p (FO p) (⟨p,0,[]⟩:af) st [] []:=by
 have hk:=okP ho
 unfold qX
 rw [GH hp hN,ho,bS,ru,dT rfl,Bool.not_true,lI,TY hp hN,bS]
 obtain ⟨s1,h1,r1⟩:=VL hp hk hN
 rw [h1,bS]
 have hb:RelB p (Xq p) (⟨p,0,[]⟩:af) []:=⟨rfl,rfl,fun s=>rfl,fun s t e=>by cases e⟩
 obtain ⟨s2,h2,r2⟩:=H6 (pe:=([]:List (Str×Str))) hp hk hN hb r1 (Xr p)
 rw [h2,bS]
 exact ⟨s2,rfl,⟨rfl,rfl,fun s=>rfl,fun s t e=>by cases e⟩,r2,List.Perm.refl _,rfl⟩
end Go.KB
