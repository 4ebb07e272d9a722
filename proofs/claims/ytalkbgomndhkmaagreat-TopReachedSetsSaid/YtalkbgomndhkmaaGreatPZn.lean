/- Plain laws of chapter 7: what stays true in an office. Plain laws of chapter 7: the program's office settles. Plain laws of chapter 7: which permits exclude each other; the new office. No condition. -/
import Derived.Test.YtalkbgomndhkmaaGreatPZm
namespace Go.KB
set_option linter.unusedVariables false
theorem bifD {α:Type} {q:Prop} [Decidable q] {a b:α}:(bif decide q then a else b)=if q then a else b:=by
 by_cases h:q
 ·rw [dT h,if_pos h];rfl
 ·rw [dF h,if_neg h];rfl
structure WA (p:GPermitPlan) (d:List aU) (A:AO):Prop where
 st:∀ s,0≤stA A s∧stA A s≤6
 fr:∀ x ∈ p.ai,stA A x.Name=2→x.From≤A.now
 ex:∀ x ∈ p.ai,∀ y ∈ p.ai,stA A x.Name=2→stA A y.Name=2→oW p x y=false
 tm:0≤A.now∧A.now≤1000000
 to:∀ x ∈ p.ai,(A.es x.Name).yB=x.To∨∃ v ∈ d,v.Op=11∧v.Name=x.Name∧v.To=(A.es x.Name).yB
 pp:A.pp.Pairwise (fun a b=>a.1<b.1)
 tt:∀ s t,A.ts s=some t→0≤t.at_∧t.at_≤1000000
 pl:A.pp.length≤d.length
structure I8 (p:GPermitPlan) (A:AO):Prop where
 w:WA p A.done A
 un:∀ x ∈ p.ai,stA A x.Name=2→uY p A x=false
 li:∀ x ∈ p.ai,stA A x.Name≤3→A.now<(A.es x.Name).yB
theorem WA.le {p:GPermitPlan} {d:List aU} {A A':AO} (h:WA p d A) (hs:∀ s,stA A' s=stA A s∨(0≤stA A' s∧stA A' s≤6∧stA A' s≠2)) (ht:∀ s,(A'.es s).yB=(A.es s).yB) (hn:A.now≤A'.now∧A'.now≤1000000) (hp:A'.pp.Pairwise (fun a b=>a.1<b.1)) (hq:∀ s t,A'.ts s=some t→A.ts s=some t∨(0≤t.at_∧t.at_≤1000000)) (hl:A'.pp.length≤d.length):WA p d A':=by
 have h2:∀ s,stA A' s=2→stA A s=2:=fun s e=>by
  rcases hs s with h1 | h1
  ·rw [← h1];exact e
  ·exact absurd e h1.2.2
 have htm:=h.tm
 refine ⟨fun s=>?_,fun x hx e=>?_,fun x hx y hy e f=>h.ex x hx y hy (h2 _ e) (h2 _ f),⟨by omega,hn.2⟩,fun x hx=>?_,hp,fun s t e=>(hq s t e).elim (h.tt s t) id,hl⟩
 ·rcases hs s with h1 | h1
  ·rw [h1];exact h.st s
  ·exact ⟨h1.1,h1.2.1⟩
 ·have:=h.fr x hx (h2 _ e);omega
 ·rw [ht];exact h.to x hx
theorem WA.mono {p:GPermitPlan} {d d':List aU} {A:AO} (h:WA p d A) (hd:∀ v ∈ d,v ∈ d') (hl:d.length≤d'.length):WA p d' A :=
 ⟨h.st,h.fr,h.ex,h.tm,fun x hx=>(h.to x hx).imp id fun ⟨v,hv,e⟩=>⟨v,hd v hv,e⟩,h.pp,h.tt,by have:=h.pl;omega⟩
theorem WA.snoc {p:GPermitPlan} {d:List aU} {A:AO} {x:aU} (h:WA p d A):WA p (d ++ [x]) A:=h.mono (fun v hv=>List.mem_append_left _ hv) (by simp)
theorem XO {A:AO} {n s:Str} {e:af}:(NS A n e).es s=if s=n then e else A.es s:=bifD
theorem JB {A:AO} {n s:Str} {e:af}:stA (NS A n e) s=if s=n then e.state else stA A s:=by
 unfold stA;rw [XO];split <;> rfl
theorem FY {A:AO} {n s:Str} {k:Int}:stA (Ii A n k) s=if s=n then k else stA A s:=JB
theorem WA.up {p:GPermitPlan} {d:List aU} {A:AO} {n:Str} {e:af} (h:WA p d A) (he:0≤e.state∧e.state≤6) (h2:e.state=2→∀ x ∈ p.ai,x.Name=n→x.From≤A.now∧∀ y ∈ p.ai,stA A y.Name=2→oW p x y=false) (ht:e.yB=(A.es n).yB∨∃ v ∈ d,v.Op=11∧v.Name=n∧v.To=e.yB):WA p d (NS A n e):=by
 refine ⟨fun s=>?_,fun x hx=>?_,fun x hx y hy=>?_,h.tm,fun x hx=>?_,h.pp,h.tt,h.pl⟩
 ·rw [JB];split
  ·exact he
  ·exact h.st s
 ·rw [JB];split
  ·rename_i hn;intro e2;exact (h2 e2 x hx hn).1
  ·intro e2;exact h.fr x hx e2
 ·rw [JB,JB]
  split
  ·rename_i hn
   split
   ·rename_i hm;intro _ _;unfold oW;rw [dT (hn.trans hm.symm)];rfl
   ·intro e2 f2;exact (h2 e2 x hx hn).2 y hy f2
  ·split
   ·rename_i hm;intro e2 f2;rw [DW];exact (h2 f2 y hy hm).2 x hx e2
   ·exact h.ex x hx y hy
 ·rw [XO]
  split
  ·rename_i hn
   rcases ht with ht | ⟨v,hv,a,b,c⟩
   ·rw [ht,← hn];exact h.to x hx
   ·exact .inr ⟨v,hv,a,b.trans hn.symm,c⟩
  ·exact h.to x hx
theorem Tc {p:GPermitPlan} {A:AO} {s:Str}:stA (qg p A) s=stA A s∨(stA (qg p A) s=6∧stA A s≤3∧(A.es s).yB≤A.now):=by
 unfold stA qg wZ
 simp only []
 cases iU p s with
 | false=>exact .inl rfl
 | true =>
  rw [lJ]
  by_cases h:(A.es s).state≤3
  ·rw [dT h]
   by_cases h1:(A.es s).yB≤A.now
   ·rw [dT h1];exact .inr ⟨rfl,h,h1⟩
   ·rw [dF h1];exact .inl rfl
  ·rw [dF h];exact .inl rfl
theorem exp_to {p:GPermitPlan} {A:AO} {s:Str}:((qg p A).es s).yB=(A.es s).yB:=by
 unfold qg wZ
 simp only []
 cases iU p s with
 | false=>rfl
 | true=>rw [lJ];cases (decide ((A.es s).state≤3)&&decide ((A.es s).yB≤A.now)) <;> rfl
theorem exp_li {p:GPermitPlan} {A:AO} {s:Str} (hs:iU p s=true) (h:stA (qg p A) s≤3):A.now<(A.es s).yB:=by
 unfold stA qg wZ at h
 simp only [] at h
 rw [hs,lJ] at h
 by_cases h3:(A.es s).state≤3
 ·rw [dT h3] at h
  by_cases h1:(A.es s).yB≤A.now
  ·rw [dT h1] at h;simp at h
  ·omega
 ·rw [dF h3] at h;simp at h;omega
theorem LM {p:GPermitPlan} {A:AO} {s:Str}:(stA (uO p A) s=stA A s∧¬ (iU p s=true∧stA A s=2∧uY p A (nR p s)=true))∨(stA (uO p A) s=3∧stA A s=2∧uY p A (nR p s)=true):=by
 have e:stA (uO p A) s=(bif iU p s&&decide (stA A s=2)&&uY p A (nR p s) then ({ A.es s with state:=3 }:af) else A.es s).state:=rfl
 rw [e]
 cases h1:iU p s with
 | false=>exact .inl ⟨rfl,fun h=>by cases h.1⟩
 | true =>
  by_cases h2:stA A s=2
  ·rw [dT h2]
   cases h3:uY p A (nR p s) with
   | false=>exact .inl ⟨rfl,fun h=>by cases h.2.2⟩
   | true=>exact .inr ⟨rfl,h2,rfl⟩
  ·rw [dF h2];exact .inl ⟨rfl,fun h=>h2 h.2.1⟩
theorem sus_to {p:GPermitPlan} {A:AO} {s:Str}:((uO p A).es s).yB=(A.es s).yB:=by
 unfold uO
 simp only []
 cases (iU p s&&decide (stA A s=2)&&uY p A (nR p s)) <;> rfl
theorem FH {p:GPermitPlan} {A:AO} {s:Str}:stA (dP p A) s=stA A s∨((stA (dP p A) s=6∨stA (dP p A) s=3)∧stA A s≤3):=by
 unfold dP
 rcases LM (p:=p) (A:=qg p A) (s:=s) with ⟨h1,_⟩ | ⟨h1,h2,_⟩
 ·rw [h1];rcases Tc (p:=p) (A:=A) (s:=s) with h | h
  ·exact .inl h
  ·exact .inr ⟨.inl h.1,h.2.1⟩
 ·refine .inr ⟨.inr h1,?_⟩
  rcases Tc (p:=p) (A:=A) (s:=s) with h | h
  ·rw [← h,h2];decide
  ·exact h.2.1
theorem NU {p:GPermitPlan} {A:AO} {s:Str}:((dP p A).es s).yB=(A.es s).yB:=sus_to.trans exp_to
theorem WA.settle {p:GPermitPlan} {d:List aU} {A:AO} (h:WA p d A):WA p d (dP p A) :=
 h.le (fun s=>(FH (p:=p) (A:=A) (s:=s)).imp id fun ⟨h1,_⟩=>by rcases h1 with h1 | h1 <;> rw [h1] <;> decide) (fun s=>NU) ⟨Int.le_refl _,h.tm.2⟩ h.pp (fun s t e=>.inl e) h.pl
theorem QN {p:GPermitPlan} (hp:FB p) {A:AO} {x:aA} (hx:x ∈ p.ai) (hk:x.Kind=5):uY p A x=false:=by
 have h1:C9 p x=[]:=by unfold C9 Ej;rw [hk];rfl
 have h2:x.Locks=[]:=by
  cases hl:x.Locks with
  | nil=>rfl
  | cons l r=>exact absurd hk (hp.lk x hx l (by rw [hl];exact List.mem_cons_self)).2.2
 unfold uY BM Dc
 rw [h1,h2];rfl
theorem J4 {A:AO} {x:aA}:(Dc A x).isEmpty=true↔∀ l ∈ x.Locks,stA A l=2:=by
 unfold Dc
 rw [List.isEmpty_iff,List.filter_eq_nil_iff]
 constructor
 ·intro h l hl;have:=h l hl;simpa using this
 ·intro h l hl;rw [h l hl];decide
theorem EW {p:GPermitPlan} (hp:FB p) {A:AO} {x:aA} (hx:x ∈ p.ai) (h2:stA (dP p A) x.Name=2):uY p (dP p A) x=false:=by
 unfold dP at h2 ⊢
 have hh:iU p x.Name=true:=uN.2 ⟨x,hx,rfl⟩
 rcases LM (p:=p) (A:=qg p A) (s:=x.Name) with ⟨h,hn⟩ | ⟨h,_⟩
 ·rw [h] at h2
  have hb:uY p (qg p A) x=false:=by
   rw [hp.xH hx] at hn
   cases hb:uY p (qg p A) x with
   | false=>rfl
   | true=>exact absurd ⟨hh,h2,hb⟩ hn
  unfold uY at hb ⊢
  rw [Bool.or_eq_false_iff] at hb ⊢
  refine ⟨hb.1,?_⟩
  have hb2:=hb.2
  rw [Bool.not_eq_false',J4] at hb2 ⊢
  intro l hl
  obtain ⟨h5,h6,_⟩:=hp.lk x hx l hl
  rcases LM (p:=p) (A:=qg p A) (s:=l) with ⟨h7,_⟩ | ⟨_,_,h7⟩
  ·rw [h7];exact hb2 l hl
  ·rw [QN hp (nN h5).1 h6] at h7;cases h7
 ·rw [h] at h2;cases h2
theorem Vs {p:GPermitPlan} {A:AO} {s:Str} (hs:iU p s=true) (h:stA (dP p A) s≤3):A.now<((dP p A).es s).yB:=by
 rw [NU]
 unfold dP at h
 refine exp_li hs ?_
 rcases LM (p:=p) (A:=qg p A) (s:=s) with ⟨h1,_⟩ | ⟨h1,h2,_⟩
 ·rw [h1] at h;exact h
 ·rw [h2];decide
theorem D5 {p:GPermitPlan} (hp:FB p) {d:List aU} {A:AO} (h:WA p d A):I8 p { dP p A with done:=d } :=
 ⟨⟨h.settle.st,h.settle.fr,h.settle.ex,h.settle.tm,h.settle.to,h.settle.pp,h.settle.tt,h.settle.pl⟩,fun x hx e=>EW hp (A:=A) hx e,fun x hx e=>Vs (A:=A) (uN.2 ⟨x,hx,rfl⟩) e⟩
theorem Y8 {p:GPermitPlan} {A:AO} {x:aA} (h:FQ p A x=[]):x.From≤A.now∧∀ y ∈ p.ai,stA A y.Name=2→oW p y x=false:=by
 unfold FQ at h
 obtain ⟨h1,h2⟩:=List.append_eq_nil_iff.1 h
 constructor
 ·by_cases hf : A.now < x.From
  ·rw [dT hf] at h1;cases h1
  ·omega
 ·intro y hy e
  rw [List.filter_eq_nil_iff] at h2
  have:=h2 (⟨20,mr p A (fun y=>oW p y x)⟩:bP) (by simp)
  have h3:mr p A (fun y=>oW p y x)=[]:=by simpa using this
  unfold mr at h3
  rw [List.map_eq_nil_iff,List.filter_eq_nil_iff] at h3
  have:=h3 y hy
  rw [dT e] at this
  simpa using this
theorem Un {q:Str×Str} {n s:Str}:∀ {l:List (Str×Str)},q ∈ Jf l n s→q=(n,s)∨q ∈ l
 | [],h=>by simpa [Jf] using h
 | a :: r,h=>by
  unfold Jf at h
  cases hd:decide (a.1<n) with
  | false=>rw [hd,kC] at h;simpa using h
  | true =>
   rw [hd,lJ] at h
   rcases List.mem_cons.1 h with rfl | h
   ·exact .inr List.mem_cons_self
   ·exact (Un h).imp id fun h=>List.mem_cons_of_mem _ h
theorem Uo {n s:Str}:∀ {l:List (Str×Str)},(Jf l n s).length=l.length+1
 | []=>rfl
 | a :: r=>by
  unfold Jf
  cases decide (a.1<n) with
  | true=>rw [lJ,List.length_cons,Uo,List.length_cons]
  | false=>rfl
theorem LP {n s : Str} : ∀ {l : List (Str × Str)}, (l.any fun q => decide (q.1 = n)) = false → l.Pairwise (fun a b => a.1 < b.1) → (Jf l n s).Pairwise (fun a b => a.1 < b.1)
  | [],_,_=>by simp [Jf]
  | a :: r,hn,h=>by
    rw [List.any_cons,Bool.or_eq_false_iff,decide_eq_false_iff_not] at hn
    rw [List.pairwise_cons] at h
    unfold Jf
    cases hd:decide (a.1<n) with
    | false =>
      rw [kC,List.pairwise_cons]
      rw [decide_eq_false_iff_not] at hd
      have hlt:n<a.1:=by
        rcases List.le_iff_lt_or_eq.1 (show n≤a.1 from hd) with h1 | h1
        · exact h1
        · exact absurd h1.symm hn.1
      refine ⟨fun q hq=>?_,List.pairwise_cons.2 h⟩
      rcases List.mem_cons.1 hq with rfl | hq
      · exact hlt
      · exact List.lt_trans hlt (h.1 q hq)
    | true =>
      rw [decide_eq_true_eq] at hd
      rw [lJ,List.pairwise_cons]
      refine ⟨fun q hq=>?_,LP hn.2 h.2⟩
      rcases Un hq with rfl | hq
      · exact hd
      · exact h.1 q hq
def StepA (p:GPermitPlan) (A:AO) (x:aU) (r:AO×List Str×Int):Prop :=
 (r.2.2≠0→r.1=A)∧(∀ d,WA p d A→WA p (d ++ [x]) r.1)∧r.1.now=A.now∧r.1.done=A.done ∧
 (∀ s,stA A s ≥ 4→stA r.1 s=stA A s)∧(∀ s,stA r.1 s=2→stA A s≠2→(x.Op=2∨x.Op=4)∧x.Name=s∧r.2.2=0)
theorem pq {p:GPermitPlan} {A:AO} {x:aU} {e:Int} {l:List Str}:StepA p A x (uq A e l) :=
 ⟨fun _=>rfl,fun d h=>h.snoc,rfl,rfl,fun _ _=>rfl,fun s h1 h2=>absurd h1 h2⟩
theorem step_up {p:GPermitPlan} {A:AO} {x:aU} {n:Str} {e:af} (h4:stA A n≤3) (he:0≤e.state∧e.state≤6) (h2:∀ d,WA p d A→e.state=2→∀ x ∈ p.ai,x.Name=n→x.From≤A.now∧∀ y ∈ p.ai,stA A y.Name=2→oW p x y=false) (ht:e.yB=(A.es n).yB∨(x.Op=11∧x.Name=n∧x.To=e.yB)) (ho:e.state=2→stA A n≠2→(x.Op=2∨x.Op=4)∧x.Name=n):StepA p A x (Bd (NS A n e)):=by
 refine ⟨fun h=>absurd rfl h,fun d h=>?_,rfl,rfl,fun s hs=>?_,fun s h1 hne=>?_⟩
 ·exact h.snoc.up he (fun e2=>h2 d h e2) (ht.imp id fun ⟨a,b,c⟩=>⟨x,List.mem_append_right _ (List.mem_singleton_self _),a,b,c⟩)
 ·show stA (NS A n e) s=_
  rw [JB]
  split
  ·rename_i h;subst h;omega
  ·rfl
 ·have h1':stA (NS A n e) s=2:=h1
  rw [JB] at h1'
  split at h1'
  ·rename_i h;subst h;exact ⟨(ho h1' hne).1,(ho h1' hne).2,rfl⟩
  ·exact absurd h1' hne
theorem O4 {p:GPermitPlan} {A:AO} {x:aU} {n:Str} {k:Int} (h4:stA A n≤3) (hk:0≤k∧k≤6) (h2:k≠2):StepA p A x (Bd (Ii A n k)) :=
 step_up h4 hk (fun d _ e=>absurd e h2) (.inl rfl) (fun e=>absurd e h2)
theorem FI {p:GPermitPlan} {A A':AO} {x:aU} (he:A'.es=A.es) (hn:A'.now=A.now) (hd:A'.done=A.done) (hp:A.pp.Pairwise (fun a b=>a.1<b.1)→A'.pp.Pairwise (fun a b=>a.1<b.1)) (hq:0≤A.now∧A.now≤1000000→∀ s t,A'.ts s=some t→A.ts s=some t∨(0≤t.at_∧t.at_≤1000000)) (hl:A'.pp.length≤A.pp.length+1):StepA p A x (Bd A'):=by
 have hs:∀ s,stA A' s=stA A s:=fun s=>by unfold stA;rw [he]
 refine ⟨fun h=>absurd rfl h,fun d h=>?_,hn,hd,fun s _=>hs s,fun s h1 h2=>absurd ((hs s).symm.trans h1) h2⟩
 exact h.snoc.le (fun s=>.inl (hs s)) (fun s=>by show (A'.es s).yB=_;rw [he]) ⟨by show A.now≤A'.now;omega,by have:=h.tm;show A'.now≤_;omega⟩ (hp h.pp) (hq h.tm) (by have:=h.pl;rw [List.length_append];simp only [List.length_singleton];show A'.pp.length≤_;omega)
theorem LQ {p:GPermitPlan} (hp:FB p) {A:AO} {x:aU} (ho:x.Op=2∨x.Op=4) (h4:stA A x.Name≤3) (hh:iU p x.Name=true):StepA p A x (zH p A x):=by
 unfold zH
 cases kJ x.Person with
 | false=>exact pq
 | true =>
  cases decide (x.Person=(A.es x.Name).BD) with
  | true=>exact pq
  | false =>
   simp only [Bool.not_true,kC]
   cases hw:FQ p A (nR p x.Name) with
   | cons r l=>exact pq
   | nil =>
    refine step_up h4 (by simp) (fun d hd _ y hy hn=>?_) (.inl rfl) (fun _ _=>⟨ho,rfl⟩)
    have hy2:nR p x.Name=y:=by rw [← hn];exact hp.xH hy
    rw [hy2] at hw
    obtain ⟨h1,h2⟩:=Y8 hw
    exact ⟨h1,fun z hz e=>by rw [DW];exact h2 z hz e⟩
theorem LU {p:GPermitPlan} (hp:FB p) {A:AO} {x:aU} (h0:0≤x.Op) (h12:x.Op<12):StepA p A x (Bc p A x):=by
  have hop:x.Op=0∨x.Op=1∨x.Op=2∨x.Op=3∨x.Op=4∨x.Op=5∨x.Op=6∨x.Op=7∨x.Op=8∨x.Op=9∨x.Op=10∨x.Op=11:=by omega
  have acts:∀ {l:List Int} {R:AO×List Str×Int},(∀ k ∈ l,k≤3)→(iU p x.Name=true→stA A x.Name ∈ l→stA A x.Name≤3→StepA p A x R)→StepA p A x (bif !iU p x.Name then uq A 6 [] else bif !l.contains (stA A x.Name) then uq A 18 [] else R):=by
    intro l R hl hR
    cases hh:iU p x.Name with
    | false=>exact pq
    | true =>
      cases hc:l.contains (stA A x.Name) with
      | false=>exact pq
      | true =>
        have hm:stA A x.Name ∈ l:=by simpa using hc
        exact hR hh hm (hl _ hm)
  unfold Bc BN yH
  rcases hop with h | h | h | h | h | h | h | h | h | h | h | h <;> simp only [h,if_true,if_false,Int.reduceEq]
  · exact FI rfl rfl rfl id (fun _ s t e=>.inl e) (Nat.le_succ _)
  · refine acts (by decide) fun hh hm h4 => ?_
    unfold Df
    cases kJ x.Person with
    | false=>exact pq
    | true=>exact step_up h4 (by simp) (fun _ _ e=>by cases e) (.inl rfl) (fun e=>by cases e)
  · exact acts (by decide) fun hh hm h4=>LQ hp (.inl h) h4 hh
  · exact acts (by decide) fun hh hm h4=>O4 h4 (by decide) (by decide)
  · exact acts (by decide) fun hh hm h4=>LQ hp (.inr h) h4 hh
  · refine acts (by decide) fun hh hm h4 => ?_
    unfold FK
    simp only []
    cases (decide ((nR p x.Name).Kind=5) && !(mr p A (fun z=>Ik z.Locks (nR p x.Name).Name)).isEmpty) with
    | true=>exact pq
    | false =>
      rw [kC]
      cases (decide ((nR p x.Name).Kind=1)&&decide (stA A (nR p x.Name).Name=2)&&(yA p (nR p x.Name).Space).dS&&(mr p A (fun z=>decide (z.Kind=1)&&decide (z.Space=(nR p x.Name).Space) && !decide (z.Name=(nR p x.Name).Name))).isEmpty && !(zo A (fun s=>decide (s=(nR p x.Name).Space))).isEmpty) with
      | true=>exact pq
      | false=>exact O4 h4 (by decide) (by decide)
  · exact acts (by decide) fun hh hm h4=>O4 h4 (by decide) (by decide)
  · unfold Vr
    cases xg p x.Space with
    | false=>exact pq
    | true =>
      cases (decide (x.vN<0)||decide (1000<x.vN)||decide (x.Pq<0)||decide (1000<x.Pq)) with
      | true=>exact pq
      | false =>
        refine FI rfl rfl rfl id (fun hn s t e=>?_) (Nat.le_succ _)
        simp only [] at e
        cases hd:decide (s=x.Space) with
        | true=>rw [hd,lJ] at e;cases e;exact .inr hn
        | false=>rw [hd,kC] at e;exact .inl e
  · unfold O5
    cases kJ x.Person with
    | false=>exact pq
    | true =>
      cases xg p x.Space with
      | false=>exact pq
      | true =>
        cases hi:D6 A x.Person with
        | true=>exact pq
        | false =>
          simp only [Bool.not_true,kC]
          cases ((yA p x.Space).dS && !Ag p A x.Space) with
          | true=>exact pq
          | false =>
            rw [kC]
            cases (!(mr p A (fun y=>decide (y.Kind=3)&&decide (pK p y.Space x.Space≤1))).isEmpty) with
            | true=>exact pq
            | false=>exact FI rfl rfl rfl (fun hpp=>LP hi hpp) (fun _ s t e=>.inl e) (Nat.le_of_eq Uo)
  · unfold O6
    cases kJ x.Person with
    | false=>exact pq
    | true =>
      cases D6 A x.Person with
      | false=>exact pq
      | true=>exact FI rfl rfl rfl (fun hpp=>hpp.filter _) (fun _ s t e=>.inl e) (Nat.le_succ_of_le (List.length_filter_le _ _))
  · unfold O7
    cases xg p x.Space with
    | false=>exact pq
    | true =>
      simp only [Bool.not_true,kC]
      have hs:∀ s,stA { A with es:=fun s=>bif iU p s&&decide (stA A s=2)&&(!decide ((nR p s).Kind=5)&&decide (pK p (nR p s).Space x.Space≤1)) then { A.es s with state:=3 } else A.es s } s=stA A s∨(stA { A with es:=fun s=>bif iU p s&&decide (stA A s=2)&&(!decide ((nR p s).Kind=5)&&decide (pK p (nR p s).Space x.Space≤1)) then { A.es s with state:=3 } else A.es s } s=3∧stA A s=2):=by
        intro s
        unfold stA
        simp only []
        cases iU p s with
        | false=>exact .inl rfl
        | true =>
          by_cases h2:(A.es s).state=2
          · rw [dT h2]
            cases (!decide ((nR p s).Kind=5)&&decide (pK p (nR p s).Space x.Space≤1)) with
            | false=>exact .inl rfl
            | true=>exact .inr ⟨rfl,h2⟩
          · rw [dF h2];exact .inl rfl
      refine ⟨fun h=>absurd rfl h,fun d hd=>?_,rfl,rfl,fun s h4=>?_,fun s h1 h2=>?_⟩
      · refine hd.snoc.le (fun s => (hs s).imp id fun h => by show _ ∧ _ ∧ _; rw [show stA (Bd _).1 s = 3 from h.1]; decide) (fun s => ?_) ⟨Int.le_refl _, hd.tm.2⟩ hd.pp (fun s t e => .inl e) hd.snoc.pl
        show (bif _ then ({ A.es s with state:=3 }:af) else A.es s).yB=_
        cases (iU p s&&decide (stA A s=2)&&(!decide ((nR p s).Kind=5)&&decide (pK p (nR p s).Space x.Space≤1))) <;> rfl
      · rcases hs s with h | h
        · exact h
        · omega
      · rcases hs s with h | h
        · exact absurd (h.symm.trans h1) h2
        · exact absurd h.2 h2
  · refine acts (by decide) fun hh hm h4 => ?_
    unfold J5
    cases kJ x.Person with
    | false=>exact pq
    | true =>
      cases (decide (x.To≤(A.es x.Name).yB)||decide (1000000<x.To)) with
      | true=>exact pq
      | false =>
        have hm':stA A x.Name=1∨stA A x.Name=2∨stA A x.Name=3:=by simpa using hm
        refine step_up h4 ⟨?_,?_⟩ (fun d hd e y hy hn=>?_) (.inr ⟨h,rfl,rfl⟩) (fun e hne=>absurd e hne)
        · show 0≤stA A x.Name;omega
        · show stA A x.Name≤6;omega
        · have e':stA A x.Name=2:=e
          rw [← hn] at e'
          exact ⟨hd.fr y hy e',fun z hz e2=>hd.ex y hy z hz e' e2⟩
theorem inv_do {p:GPermitPlan} (hp:FB p) {A:AO} {x:aU} (h:I8 p A):I8 p (xA p A x).1∧A.now≤(xA p A x).1.now∧(∀ s,stA A s ≥ 4→stA (xA p A x).1 s=stA A s)∧(∀ s,stA (xA p A x).1 s=2→stA A s≠2→(x.Op=2∨x.Op=4)∧x.Name=s∧(xA p A x).2.2=0):=by
  unfold xA
  by_cases hr:x.Op<0∨12≤x.Op∨x.At<0∨1000000<x.At
  · have hr' : (decide (x.Op < 0) || decide (12 ≤ x.Op) || decide (x.At < 0) || decide (1000000 < x.At)) = true := by simpa [or_assoc] using hr
    rw [hr']
    exact ⟨h,Int.le_refl _,fun _ _=>rfl,fun s h1 h2=>absurd h1 h2⟩
  · have hr' : (decide (x.Op < 0) || decide (12 ≤ x.Op) || decide (x.At < 0) || decide (1000000 < x.At)) = false := by simp; omega
    rw [hr',kC]
    by_cases ho:x.At<A.now
    · rw [dT ho];exact ⟨h,Int.le_refl _,fun _ _=>rfl,fun s h1 h2=>absurd h1 h2⟩
    rw [dF ho,kC]
    have hw:WA p A.done { A with now:=x.At }:=h.w.le (fun s=>.inl rfl) (fun _=>rfl) ⟨by show A.now≤x.At;omega,by show x.At≤1000000;omega⟩ h.w.pp (fun s t e=>.inl e) h.w.pl
    have hi:=D5 hp hw
    have hset:∀ s,stA (dP p { A with now:=x.At }) s=stA A s∨((stA (dP p { A with now:=x.At }) s=6∨stA (dP p { A with now:=x.At }) s=3)∧stA A s≤3):=fun s=>FH (p:=p) (A:={ A with now:=x.At }) (s:=s)
    obtain ⟨s1,s2,s3,s4,s5,s6⟩:=LU hp (A:=dP p { A with now:=x.At }) (x:=x) (by omega) (by omega)
    generalize hR:Bc p (dP p { A with now:=x.At }) x=R at s1 s2 s3 s4 s5 s6
    simp only []
    by_cases h0:R.2.2=0
    · rw [dT h0,lJ]
      have hw2:=s2 _ hi.w
      refine ⟨D5 hp (d:=A.done ++ [x]) hw2,?_,fun s hs=>?_,fun s h1 h2=>?_⟩
      · show A.now≤R.1.now
        rw [s3];show A.now≤x.At;omega
      · show stA (dP p R.1) s=stA A s
        have e1:stA (dP p { A with now:=x.At }) s=stA A s:=by
          rcases hset s with e | ⟨_,e⟩
          · exact e
          · omega
        have e2:=s5 s (by omega)
        rcases FH (p:=p) (A:=R.1) (s:=s) with e | ⟨_,e⟩ <;> omega
      · have h1':stA (dP p R.1) s=2:=h1
        have e2:stA R.1 s=2:=by
          rcases FH (p:=p) (A:=R.1) (s:=s) with e | ⟨e,_⟩ <;> omega
        have e3:stA (dP p { A with now:=x.At }) s≠2:=by
          rcases hset s with e | ⟨e,_⟩ <;> omega
        obtain ⟨a,b,c⟩:=s6 s e2 e3
        exact ⟨a,b,rfl⟩
    · rw [dF h0,kC]
      have hB:=s1 h0
      rw [hB]
      refine ⟨hi,?_,fun s hs=>?_,fun s h1 h2=>?_⟩
      · show A.now≤x.At;omega
      · rcases hset s with e | ⟨_,e⟩
        · exact e
        · omega
      · exfalso
        rcases hset s with e | ⟨e,_⟩ <;> omega
theorem Y9 {p:GPermitPlan} (hp:FB p):I8 p (Lr p):=by
 refine D5 hp (d:=[]) (A:=⟨0,fun s=>bif iU p s then ⟨0,[],(nR p s).To⟩ else ⟨0,[],0⟩,fun _=>none,[],[]⟩) ⟨fun s=>?_,fun x hx e=>?_,fun x hx y hy e=>?_,(by simp),fun x hx=>?_,List.Pairwise.nil,(fun s t e=>by cases e),Nat.le_refl _⟩
 ·unfold stA;simp only [];cases iU p s <;> simp
 ·exfalso;unfold stA at e;simp only [] at e;cases hh:iU p x.Name <;> rw [hh] at e <;> cases e
 ·exfalso;unfold stA at e;simp only [] at e;cases hh:iU p x.Name <;> rw [hh] at e <;> cases e
 ·refine .inl ?_
  simp only []
  rw [uN.2 ⟨x,hx,rfl⟩,lJ,hp.xH hx]
end Go.KB
namespace Go.KB
set_option linter.unusedVariables false
theorem zn {S O:Type} {n N:Nat} {f:S→Option (S ⊕ O)} (I:Nat→S→Prop) (Q:O→Prop) {s0:S} (h0:I 0 s0) (h:∀ i s,i<n→I i s→∃ s',f s=some (.inl s')∧I (i+1) s') (he:∀ s,I n s→∃ o,f s=some (.inr o)∧Q o) (hN:n<N):∃ o,bW f N s0=some o∧Q o:=by
 have key:∀ k i s,i+k=n→I i s→∀ M,k<M→∃ o,bW f M s=some o∧Q o:=by
  intro k
  induction k with
  | zero =>
   intro i s hi hs M hM
   obtain ⟨M,rfl⟩:∃ m,M=m+1:=⟨M - 1,by omega⟩
   have:i=n:=by omega
   subst this
   obtain ⟨o,h1,h2⟩:=he s hs
   exact ⟨o,by simp only [bW,h1],h2⟩
  | succ k ih =>
   intro i s hi hs M hM
   obtain ⟨M,rfl⟩:∃ m,M=m+1:=⟨M - 1,by omega⟩
   obtain ⟨s',h1,h2⟩:=h i s (by omega) hs
   simp only [bW,h1]
   exact ih (i+1) s' (by omega) h2 M (by omega)
 exact key n 0 s0 (by omega) h0 N (by omega)
theorem FM {α β:Type} [DecidableEq α] (x k:α) (y:β):∀ m:List (α×β),mP (qc m x y) k=(decide (k=x)||mP m k)
 | []=>by simp [mP,qc]
 | q :: r=>by
  unfold qc
  by_cases h:x=q.1
  ·rw [dT h,lJ];unfold mP;rw [← h];cases decide (k=x) <;> simp
  ·rw [dF h,kC];unfold mP;rw [FM x k y r]
   cases decide (k=q.1) <;> cases decide (k=x) <;> rfl
structure LV (p:GPermitPlan) (es:Str→af) (st:List (Str×af)):Prop where
 get:∀ s,iU p s=true→iw (⟨0,[],0⟩:af) st s=es s
 has:∀ s,mP st s=iU p s
theorem LV.set {p:GPermitPlan} {es:Str→af} {st:List (Str×af)} (h:LV p es st) {n:Str} (hn:iU p n=true) (e:af):LV p (fun s=>bif decide (s=n) then e else es s) (qc st n e):=by
 refine ⟨fun s hs=>?_,fun s=>?_⟩
 ·rw [Di]
  by_cases he:s=n
  ·rw [if_pos he,dT he];rfl
  ·rw [if_neg he,dF he];exact h.get s hs
 ·rw [FM,h.has]
  by_cases he:s=n
  ·rw [dT he,he,hn];rfl
  ·rw [dF he];rfl
theorem LV.congr {p:GPermitPlan} {es es':Str→af} {st:List (Str×af)} (h:LV p es st) (he:∀ s,iU p s=true→es s=es' s):LV p es' st:=⟨fun s hs=>by rw [h.get s hs,he s hs],h.has⟩
structure RelB (p:GPermitPlan) (A:AO) (g:ah) (jA:List (Str×aj)):Prop where
 plan:g.plan=p
 now:g.now=A.now
 LW:∀ s,mP jA s=(A.ts s).isSome
 LX:∀ s t,A.ts s=some t→iw (⟨0,0,0⟩:aj) jA s=t
structure RelA (p:GPermitPlan) (A:AO) (g:ah) (st:List (Str×af)) (jA:List (Str×aj)) (pe:List (Str×Str)):Prop where
 b:RelB p A g jA
 st:LV p A.es st
 pe:pe.Perm A.pp
 done:g.done=A.done
structure LY (A:AO):Prop where
 tm:0≤A.now∧A.now≤1000000
 st:∀ s,0≤stA A s∧stA A s≤6
 tt:∀ s t,A.ts s=some t→0≤t.at_∧t.at_≤1000000
 pl:A.pp.length<1000000
theorem WA.bd {p:GPermitPlan} {d:List aU} {A:AO} (h:WA p d A) (hd:d.length<1000000):LY A:=⟨h.tm,h.st,h.tt,Nat.lt_of_le_of_lt h.pl hd⟩
section
variable {N:Nat} {p:GPermitPlan} {A:AO} {g:ah} {st:List (Str×af)} {jA:List (Str×aj)} {pe:List (Str×Str)} (hp:Eh p) (hN:1000000≤N) (h:RelB p A g jA) (b:LY A)
include hp hN h b
theorem Za {s:Str}:pR N g st jA pe s=some (QH p A s,QG p A s):=by
 have hs:=hp.s
 unfold pR QH QG
 rw [h.plan,xI (by omega) hN,bS,h.LW s,h.now]
 show (bif !(yA p s).dS then _ else _)=_
 cases (yA p s).dS with
 | false=>rfl
 | true =>
  simp only [Bool.not_true,kC]
  cases ht:A.ts s with
  | none=>rfl
  | some t =>
   have h1:=b.tt s t ht
   have h2:=b.tm
   rw [h.LX s t ht,Y0 (by omega) (by omega)]
   simp only [Option.isSome_some,Bool.true_and,yx,xB]
theorem JD {x:aA} {s:Str}:kK N g st jA pe s x=some (Ei p A x s):=by
 unfold kK Ei
 rw [Za hp hN h b,bS,pW]
 cases decide (x.Kind=0) <;> rfl
theorem LZ {x:aA}:lG N g st jA pe x=some (BM p A x):=by
 have hl:=XQ (x:=x) hp
 unfold lG
 rw [h.plan,XR hp hN,bS]
 have hi:fE N g st jA pe (C9 p x) x=some (I5 (Ei p A x) (C9 p x)):=by
  unfold fE
  refine wP (fun i hi=>?_) ?_ (by omega)
  ·unfold eP
   rw [bH,dT (by omega),lJ,iW hi,bS,JD hp hN h b,bS,oG (by omega)]
  ·unfold eP
   rw [bH,dF (by omega),kC]
 have hd:fA N g st jA pe (C9 p x) x=some (BM p A x):=by
  unfold fA
  rw [hi,bS]
  refine del_eq (g:=Ei p A x) (fun xs i j hj hij hj2 hm=>?_) (fun xs i=>?_) (by omega) hN
  ·unfold eG
   simp only []
   rw [bH,dT (by omega),lJ,iW hj,bS,JD hp hN h b,bS,oG (by omega),oG (by omega),iW (by omega),bS,Int.toNat_natCast]
  ·unfold eG
   simp only []
   rw [bH,dF (by omega),kC]
 rw [hd];rfl
end
theorem GH {N:Nat} {p:GPermitPlan} {A:AO} {g:ah} {st:List (Str×af)} {jA:List (Str×aj)} {pe:List (Str×Str)} (hN:1000000≤N) (hst:LV p A.es st) {n:Str} {l:List Int} (hn:iU p n=true) (hl:l.length<100):dU N g st jA pe n l=some (l.contains (stA A n)):=by
 unfold dU
 rw [L6 (by omega) hN,bS,hst.get n hn];rfl
theorem JE {N:Nat} {p:GPermitPlan} {A:AO} {g:ah} {st:List (Str×af)} {jA:List (Str×aj)} {pe:List (Str×Str)} (hp:Eh p) (hN:1000000≤N) (hst:LV p A.es st) {x:aA} (hx:x.Locks.length<1000) (hlk:∀ l ∈ x.Locks,iU p l=true):jW N g st jA pe x=some (Dc A x):=by
 have hlim:lim ≥ 1000000:=by decide
 unfold jW
 have hc:fG N x.Locks=some x.Locks:=by
  unfold fG
  rw [Cc (by simp only [List.length_nil];omega)];rfl
 rw [hc,bS]
 have h1:∀ s,jy N g st jA pe s=some (decide (stA A s=2))∨¬ iU p s=true:=by
  intro s
  by_cases hs:iU p s=true
  ·left
   unfold jy
   rw [GH hN hst hs (by decide),bS]
   congr 1
   rw [Bool.eq_iff_iff];simp
  ·exact .inr hs
 have h2:∀ s ∈ x.Locks,jy N g st jA pe s=some (decide (stA A s=2)):=fun s hs=>(h1 s).elim id fun hn=>absurd (hlk s hs) hn
 have hi:fC N g st jA pe x.Locks=some (I5 (fun s=>decide (stA A s=2)) x.Locks):=by
  unfold fC
  refine wP (fun i hi=>?_) ?_ (by omega)
  ·unfold eH
   rw [bH,dT (by omega),lJ,iW hi,bS,h2 _ (List.getElem_mem hi),bS,oG (by omega)]
  ·unfold eH
   rw [bH,dF (by omega),kC]
 unfold gU
 rw [hi,bS,del_eq (g:=fun s=>decide (stA A s=2)) (f:=dH N g st jA pe) (fun xs i j hj hij hj2 hm=>?_) (fun xs i=>?_) (by omega) hN]
 ·rfl
 ·unfold dH
  simp only []
  rw [bH,dT (by omega),lJ,iW hj,bS,h2 _ hm,bS,oG (by omega),oG (by omega),iW (by omega),bS,Int.toNat_natCast]
 ·unfold dH
  simp only []
  rw [bH,dF (by omega),kC]
def GI (p:GPermitPlan) (i:Nat) (s:Str):Bool:=(p.ai.take i).any (FW s)
theorem J6 {p:GPermitPlan} {s:Str}:GI p p.ai.length s=iU p s:=by unfold GI iU;rw [List.take_length]
theorem Ie {p:GPermitPlan} {i:Nat} (hi:i<p.ai.length) {s:Str}:GI p (i+1) s=(GI p i s||decide (p.ai[i].Name=s)):=by
 unfold GI;rw [List.take_succ_eq_append_getElem hi,List.any_append];simp [FW]
theorem Ur {p:GPermitPlan} (ho:FB p) {i:Nat} (hi:i<p.ai.length):GI p i p.ai[i].Name=false:=by
 unfold GI
 rw [Bool.eq_false_iff]
 intro hx
 rw [List.any_eq_true] at hx
 obtain ⟨y,hy,hg⟩:=hx
 obtain ⟨j,hj,rfl⟩:=List.getElem_of_mem hy
 rw [List.length_take] at hj
 rw [List.getElem_take] at hg
 simp only [FW,decide_eq_true_eq] at hg
 have:=ho.pd j i (by omega) hi (by rw [wC (by omega),wC hi,hg])
 omega
theorem FN {p:GPermitPlan} {i:Nat} (hi:i<p.ai.length):iU p p.ai[i].Name=true:=uN.2 ⟨_,List.getElem_mem hi,rfl⟩
theorem XT {N:Nat} {p:GPermitPlan} {A:AO} {g:ah} {st:List (Str×af)} {jA:List (Str×aj)} {pe:List (Str×Str)} (hp:Eh p) (ho:FB p) (hN:1000000≤N) (h:RelB p A g jA) (hst:LV p A.es st) (b:LY A):∃ st',bW (kL N g jA pe) N (0,st)=some st'∧LV p (qg p A).es st':=by
 have hm:=hp.m
 refine zn (n:=p.ai.length) (fun i s=>s.1=(i:Int)∧LV p (fun s=>bif GI p i s then wZ A.now (A.es s) else A.es s) s.2) _ ⟨rfl,hst.congr fun s _=>by unfold GI;simp⟩ (fun i s hi hs=>?_) (fun s hs=>?_) (by omega)
 ·obtain ⟨s1,st'⟩:=s
  obtain ⟨rfl,hr⟩:=hs
  simp only [] at hr
  have hn:=FN hi
  have he:(bif GI p i p.ai[i].Name then wZ A.now (A.es p.ai[i].Name) else A.es p.ai[i].Name)=A.es p.ai[i].Name:=by rw [Ur ho hi];rfl
  have hg:=hr.get _ hn
  rw [he] at hg
  have hst:=b.st p.ai[i].Name
  unfold stA at hst
  have hc:([0,1,2,3]:List Int).contains (A.es p.ai[i].Name).state=decide ((A.es p.ai[i].Name).state≤3):=by
   rw [Bool.eq_iff_iff];simp;omega
  have hi':dU N g st' jA pe p.ai[i].Name [0,1,2,3]=some (decide ((A.es p.ai[i].Name).state≤3)):=by
   unfold dU
   rw [L6 (by decide) hN,bS,hg,hc]
  have hnext:∀ (e:af),e=wZ A.now (A.es p.ai[i].Name)→∀ s,iU p s=true→(bif decide (s=p.ai[i].Name) then e else (bif GI p i s then wZ A.now (A.es s) else A.es s))=(bif GI p (i+1) s then wZ A.now (A.es s) else A.es s):=by
   intro e hee s _
   rw [Ie hi]
   by_cases hs:s=p.ai[i].Name
   ·subst hs;rw [dT rfl,Bool.or_true,lJ,lJ,hee]
   ·rw [dF hs,dF (fun x=>hs x.symm),Bool.or_false];rfl
  unfold kL
  simp only []
  rw [h.plan,bH,dT (by omega),lJ,iW hi,bS,hi',bS,hg,yx,h.now,oG (by omega)]
  cases hx:(decide ((A.es p.ai[i].Name).state≤3)&&decide ((A.es p.ai[i].Name).yB≤A.now)) with
  | true =>
   refine ⟨_,rfl,rfl,?_⟩
   rw [hg]
   exact (hr.set hn _).congr (hnext _ (by unfold wZ;rw [hx];rfl))
  | false =>
   refine ⟨_,rfl,rfl,?_⟩
   refine hr.congr fun s hs=>?_
   rw [← hnext _ rfl s hs]
   by_cases he2:s=p.ai[i].Name
   ·subst he2;rw [dT rfl,lJ,he];unfold wZ;rw [hx];rfl
   ·rw [dF he2];rfl
 ·obtain ⟨s1,st'⟩:=s
  obtain ⟨rfl,hr⟩:=hs
  unfold kL
  simp only []
  rw [h.plan,bH,dF (by omega),kC]
  exact ⟨_,rfl,hr.congr fun s _=>by rw [J6];rfl⟩
theorem Ul {p:GPermitPlan} (ho:FB p) {B:AO} {l:Str} (hl:iU p l=true) (hk:(nR p l).Kind=5):(uO p B).es l=B.es l:=by
 show (bif iU p l&&decide (stA B l=2)&&uY p B (nR p l) then ({ B.es l with state:=3 }:af) else B.es l)=_
 rw [QN ho (nN hl).1 hk,Bool.and_false];rfl
theorem gt0 {α:Type} {l:List α}:aS .gtr (List.length l:Int) 0 = !l.isEmpty:=by
 rw [rY]
 cases l with
 | nil=>rfl
 | cons x r=>simp
theorem QO {N:Nat} {p:GPermitPlan} {B:AO} {g:ah} {st:List (Str×af)} {jA:List (Str×aj)} {pe:List (Str×Str)} (hp:Eh p) (ho:FB p) (hN:1000000≤N) (h:RelB p B g jA) (hst:LV p B.es st) (b:LY B):∃ o:Bool×List (Str×af),bW (jM N g jA pe) N (false,0,st)=some o∧LV p (uO p B).es o.2∧o.1=p.ai.any (fun x=>decide (stA B x.Name=2)&&uY p B x):=by
 have hm:=hp.m
 refine zn (n:=p.ai.length) (fun i s=>s.2.1=(i:Int)∧LV p (fun s=>bif GI p i s then (uO p B).es s else B.es s) s.2.2∧s.1=(p.ai.take i).any (fun x=>decide (stA B x.Name=2)&&uY p B x)) _ ⟨rfl,hst.congr fun s _=>by unfold GI;simp,by simp⟩ (fun i s hi hs=>?_) (fun s hs=>?_) (by omega)
 ·obtain ⟨fl,s1,st'⟩:=s
  obtain ⟨rfl,hr,rfl⟩:=hs
  simp only [] at hr
  have hx:=List.getElem_mem hi
  have hn:=FN hi
  have he:(bif GI p i p.ai[i].Name then (uO p B).es p.ai[i].Name else B.es p.ai[i].Name)=B.es p.ai[i].Name:=by rw [Ur ho hi];rfl
  have hg:=hr.get _ hn
  rw [he] at hg
  have hi':dU N g st' jA pe p.ai[i].Name [2]=some (decide (stA B p.ai[i].Name=2)):=by
   unfold dU
   rw [L6 (by decide) hN,bS,hg]
   congr 1
   unfold stA
   rw [Bool.eq_iff_iff];simp
  have hlk:jW N g st' jA pe p.ai[i]=some (Dc B p.ai[i]):=by
   rw [JE (A:={ B with es:=fun s=>bif GI p i s then (uO p B).es s else B.es s }) hp hN hr (hp.l _ hx) (fun l hl=>(ho.lk _ hx l hl).1)]
   congr 1
   unfold Dc
   refine List.filter_congr fun l hl=>?_
   have:=ho.lk _ hx l hl
   have e:stA { B with es:=fun s=>bif GI p i s then (uO p B).es s else B.es s } l=stA B l:=by
    show (bif GI p i l then (uO p B).es l else B.es l).state=_
    rw [Ul ho this.1 this.2.1]
    cases GI p i l <;> rfl
   rw [e]
  have hnext:∀ (e:af),e=(uO p B).es p.ai[i].Name→∀ s,iU p s=true→(bif decide (s=p.ai[i].Name) then e else (bif GI p i s then (uO p B).es s else B.es s))=(bif GI p (i+1) s then (uO p B).es s else B.es s):=by
   intro e hee s _
   rw [Ie hi]
   by_cases hs:s=p.ai[i].Name
   ·subst hs;rw [dT rfl,Bool.or_true,lJ,lJ,hee]
   ·rw [dF hs,dF (fun x=>hs x.symm),Bool.or_false];rfl
  have hsus:(uO p B).es p.ai[i].Name=(bif decide (stA B p.ai[i].Name=2)&&uY p B p.ai[i] then ({ B.es p.ai[i].Name with state:=3 }:af) else B.es p.ai[i].Name):=by
   show (bif iU p p.ai[i].Name&&decide (stA B p.ai[i].Name=2)&&uY p B (nR p p.ai[i].Name) then ({ B.es p.ai[i].Name with state:=3 }:af) else B.es p.ai[i].Name)=_
   rw [hn,ho.xH hx,Bool.true_and]
  have hany:(p.ai.take (i+1)).any (fun x=>decide (stA B x.Name=2)&&uY p B x)=((p.ai.take i).any (fun x=>decide (stA B x.Name=2)&&uY p B x)||(decide (stA B p.ai[i].Name=2)&&uY p B p.ai[i])):=by
   rw [List.take_succ_eq_append_getElem hi,List.any_append];simp
  have hsame:(decide (stA B p.ai[i].Name=2)&&uY p B p.ai[i])=false→LV p (fun s=>bif GI p (i+1) s then (uO p B).es s else B.es s) st':=fun hb=>hr.congr fun s hs=>by
   rw [← hnext _ rfl s hs]
   by_cases he2:s=p.ai[i].Name
   ·subst he2;rw [dT rfl,lJ,he,hsus,hb];rfl
   ·rw [dF he2];rfl
  have hset:(decide (stA B p.ai[i].Name=2)&&uY p B p.ai[i])=true→LV p (fun s=>bif GI p (i+1) s then (uO p B).es s else B.es s) (qc st' p.ai[i].Name ({ B.es p.ai[i].Name with state:=3 }:af)):=fun hb =>
   (hr.set hn _).congr (hnext _ (by rw [hsus,hb];rfl))
  unfold jM
  simp only []
  rw [h.plan,bH,dT (by omega),lJ,iW hi,bS,hi',bS,oG (by omega),hany]
  by_cases h2:stA B p.ai[i].Name=2
  ·rw [dT h2] at hsame hset ⊢
   simp only [lJ,Bool.true_and] at hsame hset ⊢
   rw [LZ hp hN h b,bS,gt0]
   unfold uY at hsame hset ⊢
   cases hla:(BM p B p.ai[i]).isEmpty with
   | false =>
    rw [hla] at hset
    simp only [Bool.not_false,Bool.true_or,Bool.or_true,Bool.not_true,kC,lJ,bS] at hset ⊢
    refine ⟨_,rfl,rfl,?_,rfl⟩
    rw [hg];exact hset trivial
   | true =>
    rw [hla] at hset hsame
    simp only [Bool.not_false,Bool.false_or,Bool.not_true,lJ,hlk,bS,gt0] at hset hsame ⊢
    cases hu:(Dc B p.ai[i]).isEmpty with
    | false =>
     rw [hu] at hset
     refine ⟨_,rfl,rfl,?_,by simp⟩
     rw [hg];exact hset rfl
    | true =>
     rw [hu] at hsame
     exact ⟨_,rfl,rfl,hsame rfl,by simp⟩
  ·rw [dF h2] at hsame ⊢
   exact ⟨_,rfl,rfl,hsame rfl,by simp⟩
 ·obtain ⟨fl,s1,st'⟩:=s
  obtain ⟨rfl,hr,rfl⟩:=hs
  unfold jM
  simp only []
  rw [h.plan,bH,dF (by omega),kC]
  exact ⟨_,rfl,hr.congr fun s hs=>by rw [J6,hs];rfl,by rw [List.take_length]⟩
theorem LY.exp {p:GPermitPlan} {A:AO} (b:LY A):LY (qg p A):=⟨b.tm,fun s=>by
 rcases Tc (p:=p) (A:=A) (s:=s) with e | ⟨e,_⟩ <;> rw [e]
 ·exact b.st s
 ·decide,b.tt,b.pl⟩
theorem LY.sus {p:GPermitPlan} {A:AO} (b:LY A):LY (uO p A):=⟨b.tm,fun s=>by
 rcases LM (p:=p) (A:=A) (s:=s) with ⟨e,_⟩ | ⟨e,_⟩ <;> rw [e]
 ·exact b.st s
 ·decide,b.tt,b.pl⟩
theorem LY.settle {p:GPermitPlan} {A:AO} (b:LY A):LY (dP p A):=b.exp.sus
theorem Jg {N:Nat} {p:GPermitPlan} {A:AO} {g:ah} {st:List (Str×af)} {jA:List (Str×aj)} {pe:List (Str×Str)} (hp:Eh p) (ho:FB p) (hN:1000000≤N) (h:RelB p A g jA) (hst:LV p A.es st) (b:LY A):∃ st',jP N g st jA pe=some st'∧LV p (dP p A).es st':=by
 unfold jP
 obtain ⟨s1,h1,r1⟩:=XT (pe:=pe) hp ho hN h hst b
 rw [h1,bS]
 have hE:RelB p (qg p A) g jA:=⟨h.plan,h.now,h.LW,h.LX⟩
 have hS:RelB p (dP p A) g jA:=⟨h.plan,h.now,h.LW,h.LX⟩
 obtain ⟨⟨f2,s2⟩,h2,r2,e2⟩:=QO (pe:=pe) hp ho hN hE r1 b.exp
 obtain ⟨⟨f3,s3⟩,h3,r3,e3⟩:=QO (pe:=pe) hp ho hN hS r2 b.settle
 have e3':f3=false:=by
  rw [show f3=_ from e3,Bool.eq_false_iff]
  intro hx
  rw [List.any_eq_true] at hx
  obtain ⟨x,hx,hb⟩:=hx
  rw [Bool.and_eq_true,decide_eq_true_eq] at hb
  rw [EW ho hx hb.1] at hb
  cases hb.2
 subst e3'
 obtain ⟨M,rfl⟩:∃ M,N=M+3:=⟨N - 3,by omega⟩
 have step:∀ (st:List (Str×af)) (o:Bool×List (Str×af)),bW (jM (M+3) g jA pe) (M+3) (false,0,st)=some o→kM (M+3) g jA pe (true,st)=some (.inl o):=by
  intro st o ho
  unfold kM
  rw [lJ,ho];rfl
 have stop:∀ st:List (Str×af),kM (M+3) g jA pe (false,st)=some (.inr st):=fun st=>rfl
 cases f2 with
 | false =>
  refine ⟨s2,?_,r2⟩
  rw [show M+3=(M+2)+1 from rfl]
  simp only [bW,step _ _ h2,stop];rfl
 | true =>
  refine ⟨s3,?_,r3.congr fun s hs=>?_⟩
  ·simp only [bW,step _ _ h2,step _ _ h3,stop];rfl
  ·show (bif iU p s&&decide (stA (dP p A) s=2)&&uY p (dP p A) (nR p s) then ({ (dP p A).es s with state:=3 }:af) else (dP p A).es s)=_
   by_cases h2:stA (dP p A) s=2
   ·obtain ⟨hm,hnm⟩:=nN hs
    rw [EW ho hm (by rw [hnm];exact h2),Bool.and_false];rfl
   ·rw [dF h2,Bool.and_false,Bool.false_and];rfl
end Go.KB
namespace Go.KB
set_option linter.unusedVariables false
theorem Vt {N:Nat} {l:List bJ} {f:bJ→Option Bool} {g:bJ→Bool} (hf:∀ y,f y=some (g y)) (hl:l.length<1000000) (hN:1000000≤N):gY N l f=some (I5 g l):=by
 unfold gY
 refine wP (fun i hi=>?_) ?_ (by omega)
 ·unfold gy
  rw [bH,dT (by omega),lJ,iW hi,bS,hf,bS,oG (by omega)]
 ·unfold gy
  rw [bH,dF (by omega),kC]
theorem XP {α:Type} {g:α→Bool} {l:List α}:aS .geq (I5 g l) 0=l.any g:=by
 have:=D7 (g:=g) (l:=l)
 rw [xB]
 cases h2:l.any g with
 | true=>rw [h2] at this;simp at this;rw [dT (by omega)]
 | false=>rw [h2] at this;simp at this;rw [dF (by omega)]
theorem JC {N:Nat} {p:GPermitPlan} {x y:aA} (hp:Eh p) (hN:1000000≤N):pU N p x y=some (oW p x y):=by
 have hx:=hp.x
 unfold pU oW
 rw [rQ,Ig hp hN]
 cases decide (x.Name=y.Name) with
 | true=>rfl
 | false =>
  rw [kC,kC,bS]
  unfold iV
  rw [Vt (g:=fun e=>exE e (pK p x.Space y.Space) x.Kind y.Kind) (fun e=>by unfold qU exE;simp only [yx,pW]) (by omega) hN,bS,XP];rfl
theorem cloneS {N:Nat} {l:List dh} (h:l.length<1000):jX N l=some l:=by
 have hlim:lim ≥ 1000000:=by decide
 unfold jX;rw [Cc (by simp only [List.length_nil];omega)];rfl
theorem cloneP {N:Nat} {l:List aA} (h:l.length<1000):jH N l=some l:=by
 have hlim:lim ≥ 1000000:=by decide
 unfold jH;rw [Cc (by simp only [List.length_nil];omega)];rfl
theorem cloneE {N:Nat} {l:List bJ} (h:l.length<1000):iR N l=some l:=by
 have hlim:lim ≥ 1000000:=by decide
 unfold iR;rw [Cc (by simp only [List.length_nil];omega)];rfl
theorem XU {N:Nat} {l:List Str} (h:l.length<1000):fG N l=some l:=by
 have hlim:lim ≥ 1000000:=by decide
 unfold fG;rw [Cc (by simp only [List.length_nil];omega)];rfl
theorem QR {α:Type} {l:List α} {i:Nat} (h:i<l.length):l.set i l[i]=l:=List.set_getElem_self h
theorem Vu {N:Nat} {p:GPermitPlan} (hp:Eh p) (hN:1000000≤N):vg N p=some p:=by
 have h1:=hp.s
 have h2:=hp.x
 have h3:=hp.m
 unfold vg
 rw [cloneS h1,cloneE h2,cloneP h3]
 simp only [bS]
 have e2:bW (oC N p.bF) N (0,p.bF)=some p.bF:=Jh (f:=oC N p.bF) (n:=p.bF.length) (fun i=>((i:Int),p.bF)) p.bF (fun i hi=>by
  unfold oC
  simp only []
  rw [bH,dT (by omega),lJ,iW hi,bS,XU (hp.n _ (List.getElem_mem hi)),bS,bS,oG (by omega),Int.toNat_natCast,QR hi]) (by
  unfold oC
  simp only []
  rw [bH,dF (by omega),kC]) (by omega)
 have e1:bW (oD N p.ai) N (0,p.ai)=some p.ai:=Jh (f:=oD N p.ai) (n:=p.ai.length) (fun i=>((i:Int),p.ai)) p.ai (fun i hi=>by
  unfold oD
  simp only []
  rw [bH,dT (by omega),lJ,iW hi,bS,XU (hp.l _ (List.getElem_mem hi)),bS,bS,oG (by omega),Int.toNat_natCast,QR hi]) (by
  unfold oD
  simp only []
  rw [bH,dF (by omega),kC]) (by omega)
 rw [e2,e1];rfl
def Zb (p:GPermitPlan):AO:=⟨0,fun s=>bif iU p s then ⟨0,[],(nR p s).To⟩ else ⟨0,[],0⟩,fun _=>none,[],[]⟩
theorem Zc (p:GPermitPlan):LY (Zb p):=⟨⟨by show (0:Int)≤0;omega,by show (0:Int)≤1000000;omega⟩,fun s=>by unfold stA Zb;simp only [];cases iU p s <;> simp,(fun s t e=>by cases e),by show 0<1000000;omega⟩
theorem XV {N:Nat} {p:GPermitPlan} (hp:Eh p) (ho:FB p) (hN:1000000≤N):∃ st,bW (nS N p) N (0,([]:List (Str×af)))=some st∧LV p (Zb p).es st:=by
 have hm:=hp.m
 have key:∃ st,bW (nS N p) N (0,([]:List (Str×af)))=some st∧(∀ n,GI p p.ai.length n=true→iw (⟨0,[],0⟩:af) st n=⟨0,[],(nR p n).To⟩)∧∀ n,mP st n=GI p p.ai.length n:=by
  refine zn (N:=N) (n:=p.ai.length) (f:=nS N p) (s0:=(0,([]:List (Str×af)))) (fun i s=>s.1=(i:Int)∧(∀ n,GI p i n=true→iw (⟨0,[],0⟩:af) s.2 n=⟨0,[],(nR p n).To⟩)∧∀ n,mP s.2 n=GI p i n) (fun st=>(∀ n,GI p p.ai.length n=true→iw (⟨0,[],0⟩:af) st n=⟨0,[],(nR p n).To⟩)∧∀ n,mP st n=GI p p.ai.length n) ⟨rfl,fun n h=>by unfold GI at h;simp at h,fun n=>by unfold GI;simp [mP]⟩ (fun i s hi hs=>?_) (fun s hs=>?_) (by omega)
  ·obtain ⟨s1,st⟩:=s
   obtain ⟨rfl,h1,h2⟩:=hs
   simp only [] at h1 h2
   refine ⟨_,by unfold nS;simp only [];rw [bH,dT (by omega),lJ,iW hi,bS,oG (by omega)],rfl,fun n hn=>?_,fun n=>?_⟩
   ·simp only []
    rw [Di]
    by_cases he:n=p.ai[i].Name
    ·rw [if_pos he,he,ho.xH (List.getElem_mem hi)]
    ·rw [if_neg he]
     rw [Ie hi,dF (fun x=>he x.symm),Bool.or_false] at hn
     exact h1 n hn
   ·simp only []
    rw [FM,h2,Ie hi,Bool.or_comm]
    congr 1
    exact decide_eq_decide.2 ⟨Eq.symm,Eq.symm⟩
  ·obtain ⟨s1,st⟩:=s
   obtain ⟨rfl,h1,h2⟩:=hs
   refine ⟨st,?_,h1,h2⟩
   unfold nS
   simp only []
   rw [bH,dF (by omega),kC]
 obtain ⟨st,h1,h2,h3⟩:=key
 exact ⟨st,h1,fun s hs=>by rw [h2 s (by rw [J6];exact hs)];show _=(bif iU p s then _ else _);rw [hs];rfl,fun s=>by rw [h3,J6]⟩
theorem New_eq {N:Nat} {p:GPermitPlan} (hp:Eh p) (ho:lV p=0) (hN:1000000≤N):∃ st,uH N p=some (some ((⟨p,0,[]⟩:ah),st,[],[]),0)∧RelA p (Lr p) (⟨p,0,[]⟩:ah) st [] []:=by
 have hk:=okP ho
 unfold uH
 rw [DZ hp hN,ho,bS,oz,dT rfl,Bool.not_true,kC,Vu hp hN,bS]
 obtain ⟨s1,h1,r1⟩:=XV hp hk hN
 rw [h1,bS]
 have hb:RelB p (Zb p) (⟨p,0,[]⟩:ah) []:=⟨rfl,rfl,fun s=>rfl,fun s t e=>by cases e⟩
 obtain ⟨s2,h2,r2⟩:=Jg (pe:=([]:List (Str×Str))) hp hk hN hb r1 (Zc p)
 rw [h2,bS]
 exact ⟨s2,rfl,⟨rfl,rfl,fun s=>rfl,fun s t e=>by cases e⟩,r2,List.Perm.refl _,rfl⟩
end Go.KB
