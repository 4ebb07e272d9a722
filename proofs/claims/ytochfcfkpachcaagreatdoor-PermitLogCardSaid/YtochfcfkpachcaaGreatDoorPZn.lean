/- Plain laws of chapter 7: what stays true in an office. Plain laws of chapter 7: the program's office settles. Plain laws of chapter 7: which permits exclude each other; the new office. No condition. -/
import Derived.Test.YtochfcfkpachcaaGreatDoorPZm
namespace Go.KB
set_option linter.unusedVariables false
theorem bifD {α:Type} {q:Prop} [Decidable q] {a b:α}:(bif decide q then a else b)=if q then a else b:=by
 by_cases h:q
 ·rw [dT h,if_pos h];rfl
 ·rw [dF h,if_neg h];rfl
structure WA (p:GPermitPlan) (d:List GEvent) (A:AO):Prop where
 st:∀ s,0≤stA A s∧stA A s≤6
 fr:∀ x ∈ p.aH,stA A x.Name=2→x.From≤A.now
 ex:∀ x ∈ p.aH,∀ y ∈ p.aH,stA A x.Name=2→stA A y.Name=2→yY p x y=false
 tm:0≤A.now∧A.now≤1000000
 to:∀ x ∈ p.aH,(A.es x.Name).wo=x.To∨∃ v ∈ d,v.Op=11∧v.Name=x.Name∧v.To=(A.es x.Name).wo
 pp:A.pp.Pairwise (fun a b=>a.1<b.1)
 tt:∀ s t,A.ts s=some t→0≤t.at_∧t.at_≤1000000
 pl:A.pp.length≤d.length
structure RV (p:GPermitPlan) (A:AO):Prop where
 w:WA p A.done A
 un:∀ x ∈ p.aH,stA A x.Name=2→yU p A x=false
 li:∀ x ∈ p.aH,stA A x.Name≤3→A.now<(A.es x.Name).wo
theorem WA.le {p:GPermitPlan} {d:List GEvent} {A A':AO} (h:WA p d A) (hs:∀ s,stA A' s=stA A s∨(0≤stA A' s∧stA A' s≤6∧stA A' s≠2)) (ht:∀ s,(A'.es s).wo=(A.es s).wo) (hn:A.now≤A'.now∧A'.now≤1000000) (hp:A'.pp.Pairwise (fun a b=>a.1<b.1)) (hq:∀ s t,A'.ts s=some t→A.ts s=some t∨(0≤t.at_∧t.at_≤1000000)) (hl:A'.pp.length≤d.length):WA p d A':=by
 have h2:∀ s,stA A' s=2→stA A s=2:=fun s e=>by
  rcases hs s with h1 | h1
  ·rw [← h1];exact e
  ·exact absurd e h1.2.2
 have htm:=h.tm
 refine ⟨fun s=>?_,fun x hx e=>?_,fun x hx y hy e f=>h.ex x hx y hy (h2 _ e) (h2 _ f),⟨by omega,hn.2⟩,fun x hx=>?_,hp,fun s t e=>(hq s t e).elim (h.tt s t) id,hl⟩
 ·rcases hs s with h1 | h1
  ·rw [h1];exact h.st s
  ·exact ⟨h1.1,h1.2.1⟩
 ·have:=h.fr x hx (h2 _ e);omega
 ·rw [ht];exact h.to x hx
theorem WA.mono {p:GPermitPlan} {d d':List GEvent} {A:AO} (h:WA p d A) (hd:∀ v ∈ d,v ∈ d') (hl:d.length≤d'.length):WA p d' A :=
 ⟨h.st,h.fr,h.ex,h.tm,fun x hx=>(h.to x hx).imp id fun ⟨v,hv,e⟩=>⟨v,hd v hv,e⟩,h.pp,h.tt,by have:=h.pl;omega⟩
theorem WA.snoc {p:GPermitPlan} {d:List GEvent} {A:AO} {x:GEvent} (h:WA p d A):WA p (d ++ [x]) A:=h.mono (fun v hv=>List.mem_append_left _ hv) (by simp)
theorem up_es {A:AO} {n s:Str} {e:ah}:(ZI A n e).es s=if s=n then e else A.es s:=bifD
theorem QF {A:AO} {n s:Str} {e:ah}:stA (ZI A n e) s=if s=n then e.state else stA A s:=by
 unfold stA;rw [up_es];split <;> rfl
theorem WA.up {p:GPermitPlan} {d:List GEvent} {A:AO} {n:Str} {e:ah} (h:WA p d A) (he:0≤e.state∧e.state≤6) (h2:e.state=2→∀ x ∈ p.aH,x.Name=n→x.From≤A.now∧∀ y ∈ p.aH,stA A y.Name=2→yY p x y=false) (ht:e.wo=(A.es n).wo∨∃ v ∈ d,v.Op=11∧v.Name=n∧v.To=e.wo):WA p d (ZI A n e):=by
 refine ⟨fun s=>?_,fun x hx=>?_,fun x hx y hy=>?_,h.tm,fun x hx=>?_,h.pp,h.tt,h.pl⟩
 ·rw [QF];split
  ·exact he
  ·exact h.st s
 ·rw [QF];split
  ·rename_i hn;intro e2;exact (h2 e2 x hx hn).1
  ·intro e2;exact h.fr x hx e2
 ·rw [QF,QF]
  split
  ·rename_i hn
   split
   ·rename_i hm;intro _ _;unfold yY;rw [dT (hn.trans hm.symm)];rfl
   ·intro e2 f2;exact (h2 e2 x hx hn).2 y hy f2
  ·split
   ·rename_i hm;intro e2 f2;rw [Pg];exact (h2 f2 y hy hm).2 x hx e2
   ·exact h.ex x hx y hy
 ·rw [up_es]
  split
  ·rename_i hn
   rcases ht with ht | ⟨v,hv,a,b,c⟩
   ·rw [ht,← hn];exact h.to x hx
   ·exact .inr ⟨v,hv,a,b.trans hn.symm,c⟩
  ·exact h.to x hx
theorem Vx {p:GPermitPlan} {A:AO} {s:Str}:stA (vI p A) s=stA A s∨(stA (vI p A) s=6∧stA A s≤3∧(A.es s).wo≤A.now):=by
 unfold stA vI yM
 simp only []
 cases lZ p s with
 | false=>exact .inl rfl
 | true =>
  rw [ni]
  by_cases h:(A.es s).state≤3
  ·rw [dT h]
   by_cases h1:(A.es s).wo≤A.now
   ·rw [dT h1];exact .inr ⟨rfl,h,h1⟩
   ·rw [dF h1];exact .inl rfl
  ·rw [dF h];exact .inl rfl
theorem exp_to {p:GPermitPlan} {A:AO} {s:Str}:((vI p A).es s).wo=(A.es s).wo:=by
 unfold vI yM
 simp only []
 cases lZ p s with
 | false=>rfl
 | true=>rw [ni];cases (decide ((A.es s).state≤3)&&decide ((A.es s).wo≤A.now)) <;> rfl
theorem exp_li {p:GPermitPlan} {A:AO} {s:Str} (hs:lZ p s=true) (h:stA (vI p A) s≤3):A.now<(A.es s).wo:=by
 unfold stA vI yM at h
 simp only [] at h
 rw [hs,ni] at h
 by_cases h3:(A.es s).state≤3
 ·rw [dT h3] at h
  by_cases h1:(A.es s).wo≤A.now
  ·rw [dT h1] at h;simp at h
  ·omega
 ·rw [dF h3] at h;simp at h;omega
theorem Ph {p:GPermitPlan} {A:AO} {s:Str}:(stA (zD p A) s=stA A s∧¬ (lZ p s=true∧stA A s=2∧yU p A (qK p s)=true))∨(stA (zD p A) s=3∧stA A s=2∧yU p A (qK p s)=true):=by
 have e:stA (zD p A) s=(bif lZ p s&&decide (stA A s=2)&&yU p A (qK p s) then ({ A.es s with state:=3 }:ah) else A.es s).state:=rfl
 rw [e]
 cases h1:lZ p s with
 | false=>exact .inl ⟨rfl,fun h=>by cases h.1⟩
 | true =>
  by_cases h2:stA A s=2
  ·rw [dT h2]
   cases h3:yU p A (qK p s) with
   | false=>exact .inl ⟨rfl,fun h=>by cases h.2.2⟩
   | true=>exact .inr ⟨rfl,h2,rfl⟩
  ·rw [dF h2];exact .inl ⟨rfl,fun h=>h2 h.2.1⟩
theorem sus_to {p:GPermitPlan} {A:AO} {s:Str}:((zD p A).es s).wo=(A.es s).wo:=by
 unfold zD
 simp only []
 cases (lZ p s&&decide (stA A s=2)&&yU p A (qK p s)) <;> rfl
theorem IK {p:GPermitPlan} {A:AO} {s:Str}:stA (ig p A) s=stA A s∨((stA (ig p A) s=6∨stA (ig p A) s=3)∧stA A s≤3):=by
 unfold ig
 rcases Ph (p:=p) (A:=vI p A) (s:=s) with ⟨h1,_⟩ | ⟨h1,h2,_⟩
 ·rw [h1];rcases Vx (p:=p) (A:=A) (s:=s) with h | h
  ·exact .inl h
  ·exact .inr ⟨.inl h.1,h.2.1⟩
 ·refine .inr ⟨.inr h1,?_⟩
  rcases Vx (p:=p) (A:=A) (s:=s) with h | h
  ·rw [← h,h2];decide
  ·exact h.2.1
theorem QG {p:GPermitPlan} {A:AO} {s:Str}:((ig p A).es s).wo=(A.es s).wo:=sus_to.trans exp_to
theorem WA.settle {p:GPermitPlan} {d:List GEvent} {A:AO} (h:WA p d A):WA p d (ig p A) :=
 h.le (fun s=>(IK (p:=p) (A:=A) (s:=s)).imp id fun ⟨h1,_⟩=>by rcases h1 with h1 | h1 <;> rw [h1] <;> decide) (fun s=>QG) ⟨Int.le_refl _,h.tm.2⟩ h.pp (fun s t e=>.inl e) h.pl
theorem O8 {p:GPermitPlan} (hp:H6 p) {A:AO} {x:aP} (hx:x ∈ p.aH) (hk:x.Kind=5):yU p A x=false:=by
 have h1:Ie p x=[]:=by unfold Ie Ig;rw [hk];rfl
 have h2:x.Locks=[]:=by
  cases hl:x.Locks with
  | nil=>rfl
  | cons l r=>exact absurd hk (hp.lk x hx l (by rw [hl];exact List.mem_cons_self)).2.2
 unfold yU Aq JC
 rw [h1,h2];rfl
theorem WH {A:AO} {x:aP}:(JC A x).isEmpty=true↔∀ l ∈ x.Locks,stA A l=2:=by
 unfold JC
 rw [List.isEmpty_iff,List.filter_eq_nil_iff]
 constructor
 ·intro h l hl;have:=h l hl;simpa using this
 ·intro h l hl;rw [h l hl];decide
theorem Ih {p:GPermitPlan} (hp:H6 p) {A:AO} {x:aP} (hx:x ∈ p.aH) (h2:stA (ig p A) x.Name=2):yU p (ig p A) x=false:=by
 unfold ig at h2 ⊢
 have hh:lZ p x.Name=true:=BZ.2 ⟨x,hx,rfl⟩
 rcases Ph (p:=p) (A:=vI p A) (s:=x.Name) with ⟨h,hn⟩ | ⟨h,_⟩
 ·rw [h] at h2
  have hb:yU p (vI p A) x=false:=by
   rw [hp.JB hx] at hn
   cases hb:yU p (vI p A) x with
   | false=>rfl
   | true=>exact absurd ⟨hh,h2,hb⟩ hn
  unfold yU at hb ⊢
  rw [Bool.or_eq_false_iff] at hb ⊢
  refine ⟨hb.1,?_⟩
  have hb2:=hb.2
  rw [Bool.not_eq_false',WH] at hb2 ⊢
  intro l hl
  obtain ⟨h5,h6,_⟩:=hp.lk x hx l hl
  rcases Ph (p:=p) (A:=vI p A) (s:=l) with ⟨h7,_⟩ | ⟨_,_,h7⟩
  ·rw [h7];exact hb2 l hl
  ·rw [O8 hp (zk h5).1 h6] at h7;cases h7
 ·rw [h] at h2;cases h2
theorem QC {p:GPermitPlan} {A:AO} {s:Str} (hs:lZ p s=true) (h:stA (ig p A) s≤3):A.now<((ig p A).es s).wo:=by
 rw [QG]
 unfold ig at h
 refine exp_li hs ?_
 rcases Ph (p:=p) (A:=vI p A) (s:=s) with ⟨h1,_⟩ | ⟨h1,h2,_⟩
 ·rw [h1] at h;exact h
 ·rw [h2];decide
theorem GI {p:GPermitPlan} (hp:H6 p) {d:List GEvent} {A:AO} (h:WA p d A):RV p { ig p A with done:=d } :=
 ⟨⟨h.settle.st,h.settle.fr,h.settle.ex,h.settle.tm,h.settle.to,h.settle.pp,h.settle.tt,h.settle.pl⟩,fun x hx e=>Ih hp (A:=A) hx e,fun x hx e=>QC (A:=A) (BZ.2 ⟨x,hx,rfl⟩) e⟩
theorem jJp {p:GPermitPlan} {A:AO} {x:aP} (h:Ew p A x=[]):x.From≤A.now∧∀ y ∈ p.aH,stA A y.Name=2→yY p y x=false:=by
 unfold Ew at h
 obtain ⟨h1,h2⟩:=List.append_eq_nil_iff.1 h
 constructor
 ·by_cases hf : A.now < x.From
  ·rw [dT hf] at h1;cases h1
  ·omega
 ·intro y hy e
  rw [List.filter_eq_nil_iff] at h2
  have:=h2 (⟨20,nC p A (fun y=>yY p y x)⟩:bg) (by simp)
  have h3:nC p A (fun y=>yY p y x)=[]:=by simpa using this
  unfold nC at h3
  rw [List.map_eq_nil_iff,List.filter_eq_nil_iff] at h3
  have:=h3 y hy
  rw [dT e] at this
  simpa using this
theorem WI {q:Str×Str} {n s:Str}:∀ {l:List (Str×Str)},q ∈ LG l n s→q=(n,s)∨q ∈ l
 | [],h=>by simpa [LG] using h
 | a :: r,h=>by
  unfold LG at h
  cases hd:decide (a.1<n) with
  | false=>rw [hd,nN] at h;simpa using h
  | true =>
   rw [hd,ni] at h
   rcases List.mem_cons.1 h with rfl | h
   ·exact .inr List.mem_cons_self
   ·exact (WI h).imp id fun h=>List.mem_cons_of_mem _ h
theorem WJ {n s:Str}:∀ {l:List (Str×Str)},(LG l n s).length=l.length+1
 | []=>rfl
 | a :: r=>by
  unfold LG
  cases decide (a.1<n) with
  | true=>rw [ni,List.length_cons,WJ,List.length_cons]
  | false=>rfl
theorem Pj {n s : Str} : ∀ {l : List (Str × Str)}, (l.any fun q => decide (q.1 = n)) = false → l.Pairwise (fun a b => a.1 < b.1) → (LG l n s).Pairwise (fun a b => a.1 < b.1)
  | [],_,_=>by simp [LG]
  | a :: r,hn,h=>by
    rw [List.any_cons,Bool.or_eq_false_iff,decide_eq_false_iff_not] at hn
    rw [List.pairwise_cons] at h
    unfold LG
    cases hd:decide (a.1<n) with
    | false =>
      rw [nN,List.pairwise_cons]
      rw [decide_eq_false_iff_not] at hd
      have hlt:n<a.1:=by
        rcases List.le_iff_lt_or_eq.1 (show n≤a.1 from hd) with h1 | h1
        · exact h1
        · exact absurd h1.symm hn.1
      refine ⟨fun q hq=>?_,List.pairwise_cons.2 h⟩
      rcases List.mem_cons.1 hq with rfl | hq
      · exact hlt
      · exact List.lt_trans hlt (h.1 q hq)
    | true =>
      rw [decide_eq_true_eq] at hd
      rw [ni,List.pairwise_cons]
      refine ⟨fun q hq=>?_,Pj hn.2 h.2⟩
      rcases WI hq with rfl | hq
      · exact hd
      · exact h.1 q hq
def StepA (p:GPermitPlan) (A:AO) (x:GEvent) (r:AO×List Str×Int):Prop :=
 (r.2.2≠0→r.1=A)∧(∀ d,WA p d A→WA p (d ++ [x]) r.1)∧r.1.now=A.now∧r.1.done=A.done ∧
 (∀ s,stA A s ≥ 4→stA r.1 s=stA A s)∧(∀ s,stA r.1 s=2→stA A s≠2→(x.Op=2∨x.Op=4)∧x.Name=s∧r.2.2=0)
theorem qp {p:GPermitPlan} {A:AO} {x:GEvent} {e:Int} {l:List Str}:StepA p A x (zl A e l) :=
 ⟨fun _=>rfl,fun d h=>h.snoc,rfl,rfl,fun _ _=>rfl,fun s h1 h2=>absurd h1 h2⟩
theorem step_up {p:GPermitPlan} {A:AO} {x:GEvent} {n:Str} {e:ah} (h4:stA A n≤3) (he:0≤e.state∧e.state≤6) (h2:∀ d,WA p d A→e.state=2→∀ x ∈ p.aH,x.Name=n→x.From≤A.now∧∀ y ∈ p.aH,stA A y.Name=2→yY p x y=false) (ht:e.wo=(A.es n).wo∨(x.Op=11∧x.Name=n∧x.To=e.wo)) (ho:e.state=2→stA A n≠2→(x.Op=2∨x.Op=4)∧x.Name=n):StepA p A x (Gz (ZI A n e)):=by
 refine ⟨fun h=>absurd rfl h,fun d h=>?_,rfl,rfl,fun s hs=>?_,fun s h1 hne=>?_⟩
 ·exact h.snoc.up he (fun e2=>h2 d h e2) (ht.imp id fun ⟨a,b,c⟩=>⟨x,List.mem_append_right _ (List.mem_singleton_self _),a,b,c⟩)
 ·show stA (ZI A n e) s=_
  rw [QF]
  split
  ·rename_i h;subst h;omega
  ·rfl
 ·have h1':stA (ZI A n e) s=2:=h1
  rw [QF] at h1'
  split at h1'
  ·rename_i h;subst h;exact ⟨(ho h1' hne).1,(ho h1' hne).2,rfl⟩
  ·exact absurd h1' hne
theorem Sm {p:GPermitPlan} {A:AO} {x:GEvent} {n:Str} {k:Int} (h4:stA A n≤3) (hk:0≤k∧k≤6) (h2:k≠2):StepA p A x (Gz (beA A n k)) :=
 step_up h4 hk (fun d _ e=>absurd e h2) (.inl rfl) (fun e=>absurd e h2)
theorem IL {p:GPermitPlan} {A A':AO} {x:GEvent} (he:A'.es=A.es) (hn:A'.now=A.now) (hd:A'.done=A.done) (hp:A.pp.Pairwise (fun a b=>a.1<b.1)→A'.pp.Pairwise (fun a b=>a.1<b.1)) (hq:0≤A.now∧A.now≤1000000→∀ s t,A'.ts s=some t→A.ts s=some t∨(0≤t.at_∧t.at_≤1000000)) (hl:A'.pp.length≤A.pp.length+1):StepA p A x (Gz A'):=by
 have hs:∀ s,stA A' s=stA A s:=fun s=>by unfold stA;rw [he]
 refine ⟨fun h=>absurd rfl h,fun d h=>?_,hn,hd,fun s _=>hs s,fun s h1 h2=>absurd ((hs s).symm.trans h1) h2⟩
 exact h.snoc.le (fun s=>.inl (hs s)) (fun s=>by show (A'.es s).wo=_;rw [he]) ⟨by show A.now≤A'.now;omega,by have:=h.tm;show A'.now≤_;omega⟩ (hp h.pp) (hq h.tm) (by have:=h.pl;rw [List.length_append];simp only [List.length_singleton];show A'.pp.length≤_;omega)
theorem Pm {p:GPermitPlan} (hp:H6 p) {A:AO} {x:GEvent} (ho:x.Op=2∨x.Op=4) (h4:stA A x.Name≤3) (hh:lZ p x.Name=true):StepA p A x (xR p A x):=by
 unfold xR
 cases iI x.Person with
 | false=>exact qp
 | true =>
  cases decide (x.Person=(A.es x.Name).IU) with
  | true=>exact qp
  | false =>
   simp only [Bool.not_true,nN]
   cases hw:Ew p A (qK p x.Name) with
   | cons r l=>exact qp
   | nil =>
    refine step_up h4 (by simp) (fun d hd _ y hy hn=>?_) (.inl rfl) (fun _ _=>⟨ho,rfl⟩)
    have hy2:qK p x.Name=y:=by rw [← hn];exact hp.JB hy
    rw [hy2] at hw
    obtain ⟨h1,h2⟩:=jJp hw
    exact ⟨h1,fun z hz e=>by rw [Pg];exact h2 z hz e⟩
theorem Pn {p:GPermitPlan} (hp:H6 p) {A:AO} {x:GEvent} (h0:0≤x.Op) (h12:x.Op<12):StepA p A x (yI p A x):=by
  have hop:x.Op=0∨x.Op=1∨x.Op=2∨x.Op=3∨x.Op=4∨x.Op=5∨x.Op=6∨x.Op=7∨x.Op=8∨x.Op=9∨x.Op=10∨x.Op=11:=by omega
  have acts:∀ {l:List Int} {R:AO×List Str×Int},(∀ k ∈ l,k≤3)→(lZ p x.Name=true→stA A x.Name ∈ l→stA A x.Name≤3→StepA p A x R)→StepA p A x (bif !lZ p x.Name then zl A 6 [] else bif !l.contains (stA A x.Name) then zl A 18 [] else R):=by
    intro l R hl hR
    cases hh:lZ p x.Name with
    | false=>exact qp
    | true =>
      cases hc:l.contains (stA A x.Name) with
      | false=>exact qp
      | true =>
        have hm:stA A x.Name ∈ l:=by simpa using hc
        exact hR hh hm (hl _ hm)
  unfold yI Aj FT
  rcases hop with h | h | h | h | h | h | h | h | h | h | h | h <;> simp only [h,if_true,if_false,Int.reduceEq]
  · exact IL rfl rfl rfl id (fun _ s t e=>.inl e) (Nat.le_succ _)
  · refine acts (by decide) fun hh hm h4 => ?_
    unfold vG
    cases iI x.Person with
    | false=>exact qp
    | true=>exact step_up h4 (by simp) (fun _ _ e=>by cases e) (.inl rfl) (fun e=>by cases e)
  · exact acts (by decide) fun hh hm h4=>Pm hp (.inl h) h4 hh
  · exact acts (by decide) fun hh hm h4=>Sm h4 (by decide) (by decide)
  · exact acts (by decide) fun hh hm h4=>Pm hp (.inr h) h4 hh
  · refine acts (by decide) fun hh hm h4 => ?_
    unfold x9
    simp only []
    cases (decide ((qK p x.Name).Kind=5) && !(nC p A (fun z=>Me z.Locks (qK p x.Name).Name)).isEmpty) with
    | true=>exact qp
    | false =>
      rw [nN]
      cases (decide ((qK p x.Name).Kind=1)&&decide (stA A (qK p x.Name).Name=2)&&(zM p (qK p x.Name).Space).fG&&(nC p A (fun z=>decide (z.Kind=1)&&decide (z.Space=(qK p x.Name).Space) && !decide (z.Name=(qK p x.Name).Name))).isEmpty && !(yJ A (fun s=>decide (s=(qK p x.Name).Space))).isEmpty) with
      | true=>exact qp
      | false=>exact Sm h4 (by decide) (by decide)
  · exact acts (by decide) fun hh hm h4=>Sm h4 (by decide) (by decide)
  · unfold Kw
    cases yg p x.Space with
    | false=>exact qp
    | true =>
      cases (decide (x.rU<0)||decide (1000<x.rU)||decide (x.Mc<0)||decide (1000<x.Mc)) with
      | true=>exact qp
      | false =>
        refine IL rfl rfl rfl id (fun hn s t e=>?_) (Nat.le_succ _)
        simp only [] at e
        cases hd:decide (s=x.Space) with
        | true=>rw [hd,ni] at e;cases e;exact .inr hn
        | false=>rw [hd,nN] at e;exact .inl e
  · unfold Ak
    cases iI x.Person with
    | false=>exact qp
    | true =>
      cases yg p x.Space with
      | false=>exact qp
      | true =>
        cases hi:xg A x.Person with
        | true=>exact qp
        | false =>
          simp only [Bool.not_true,nN]
          cases ((zM p x.Space).fG && !vH p A x.Space) with
          | true=>exact qp
          | false =>
            rw [nN]
            cases (!(nC p A (fun y=>decide (y.Kind=3)&&decide (pI p y.Space x.Space≤1))).isEmpty) with
            | true=>exact qp
            | false=>exact IL rfl rfl rfl (fun hpp=>Pj hi hpp) (fun _ s t e=>.inl e) (Nat.le_of_eq WJ)
  · unfold Am
    cases iI x.Person with
    | false=>exact qp
    | true =>
      cases xg A x.Person with
      | false=>exact qp
      | true=>exact IL rfl rfl rfl (fun hpp=>hpp.filter _) (fun _ s t e=>.inl e) (Nat.le_succ_of_le (List.length_filter_le _ _))
  · unfold Ap
    cases yg p x.Space with
    | false=>exact qp
    | true =>
      simp only [Bool.not_true,nN]
      have hs:∀ s,stA { A with es:=fun s=>bif lZ p s&&decide (stA A s=2)&&(!decide ((qK p s).Kind=5)&&decide (pI p (qK p s).Space x.Space≤1)) then { A.es s with state:=3 } else A.es s } s=stA A s∨(stA { A with es:=fun s=>bif lZ p s&&decide (stA A s=2)&&(!decide ((qK p s).Kind=5)&&decide (pI p (qK p s).Space x.Space≤1)) then { A.es s with state:=3 } else A.es s } s=3∧stA A s=2):=by
        intro s
        unfold stA
        simp only []
        cases lZ p s with
        | false=>exact .inl rfl
        | true =>
          by_cases h2:(A.es s).state=2
          · rw [dT h2]
            cases (!decide ((qK p s).Kind=5)&&decide (pI p (qK p s).Space x.Space≤1)) with
            | false=>exact .inl rfl
            | true=>exact .inr ⟨rfl,h2⟩
          · rw [dF h2];exact .inl rfl
      refine ⟨fun h=>absurd rfl h,fun d hd=>?_,rfl,rfl,fun s h4=>?_,fun s h1 h2=>?_⟩
      · refine hd.snoc.le (fun s => (hs s).imp id fun h => by show _ ∧ _ ∧ _; rw [show stA (Gz _).1 s = 3 from h.1]; decide) (fun s => ?_) ⟨Int.le_refl _, hd.tm.2⟩ hd.pp (fun s t e => .inl e) hd.snoc.pl
        show (bif _ then ({ A.es s with state:=3 }:ah) else A.es s).wo=_
        cases (lZ p s&&decide (stA A s=2)&&(!decide ((qK p s).Kind=5)&&decide (pI p (qK p s).Space x.Space≤1))) <;> rfl
      · rcases hs s with h | h
        · exact h
        · omega
      · rcases hs s with h | h
        · exact absurd (h.symm.trans h1) h2
        · exact absurd h.2 h2
  · refine acts (by decide) fun hh hm h4 => ?_
    unfold xZ
    cases iI x.Person with
    | false=>exact qp
    | true =>
      cases (decide (x.To≤(A.es x.Name).wo)||decide (1000000<x.To)) with
      | true=>exact qp
      | false =>
        have hm':stA A x.Name=1∨stA A x.Name=2∨stA A x.Name=3:=by simpa using hm
        refine step_up h4 ⟨?_,?_⟩ (fun d hd e y hy hn=>?_) (.inr ⟨h,rfl,rfl⟩) (fun e hne=>absurd e hne)
        · show 0≤stA A x.Name;omega
        · show stA A x.Name≤6;omega
        · have e':stA A x.Name=2:=e
          rw [← hn] at e'
          exact ⟨hd.fr y hy e',fun z hz e2=>hd.ex y hy z hz e' e2⟩
theorem inv_do {p:GPermitPlan} (hp:H6 p) {A:AO} {x:GEvent} (h:RV p A):RV p (zL p A x).1∧A.now≤(zL p A x).1.now∧(∀ s,stA A s ≥ 4→stA (zL p A x).1 s=stA A s)∧(∀ s,stA (zL p A x).1 s=2→stA A s≠2→(x.Op=2∨x.Op=4)∧x.Name=s∧(zL p A x).2.2=0):=by
  unfold zL
  by_cases hr:x.Op<0∨12≤x.Op∨x.At<0∨1000000<x.At
  · have hr' : (decide (x.Op < 0) || decide (12 ≤ x.Op) || decide (x.At < 0) || decide (1000000 < x.At)) = true := by simpa [or_assoc] using hr
    rw [hr']
    exact ⟨h,Int.le_refl _,fun _ _=>rfl,fun s h1 h2=>absurd h1 h2⟩
  · have hr' : (decide (x.Op < 0) || decide (12 ≤ x.Op) || decide (x.At < 0) || decide (1000000 < x.At)) = false := by simp; omega
    rw [hr',nN]
    by_cases ho:x.At<A.now
    · rw [dT ho];exact ⟨h,Int.le_refl _,fun _ _=>rfl,fun s h1 h2=>absurd h1 h2⟩
    rw [dF ho,nN]
    have hw:WA p A.done { A with now:=x.At }:=h.w.le (fun s=>.inl rfl) (fun _=>rfl) ⟨by show A.now≤x.At;omega,by show x.At≤1000000;omega⟩ h.w.pp (fun s t e=>.inl e) h.w.pl
    have hi:=GI hp hw
    have hset:∀ s,stA (ig p { A with now:=x.At }) s=stA A s∨((stA (ig p { A with now:=x.At }) s=6∨stA (ig p { A with now:=x.At }) s=3)∧stA A s≤3):=fun s=>IK (p:=p) (A:={ A with now:=x.At }) (s:=s)
    obtain ⟨s1,s2,s3,s4,s5,s6⟩:=Pn hp (A:=ig p { A with now:=x.At }) (x:=x) (by omega) (by omega)
    generalize hR:yI p (ig p { A with now:=x.At }) x=R at s1 s2 s3 s4 s5 s6
    simp only []
    by_cases h0:R.2.2=0
    · rw [dT h0,ni]
      have hw2:=s2 _ hi.w
      refine ⟨GI hp (d:=A.done ++ [x]) hw2,?_,fun s hs=>?_,fun s h1 h2=>?_⟩
      · show A.now≤R.1.now
        rw [s3];show A.now≤x.At;omega
      · show stA (ig p R.1) s=stA A s
        have e1:stA (ig p { A with now:=x.At }) s=stA A s:=by
          rcases hset s with e | ⟨_,e⟩
          · exact e
          · omega
        have e2:=s5 s (by omega)
        rcases IK (p:=p) (A:=R.1) (s:=s) with e | ⟨_,e⟩ <;> omega
      · have h1':stA (ig p R.1) s=2:=h1
        have e2:stA R.1 s=2:=by
          rcases IK (p:=p) (A:=R.1) (s:=s) with e | ⟨e,_⟩ <;> omega
        have e3:stA (ig p { A with now:=x.At }) s≠2:=by
          rcases hset s with e | ⟨e,_⟩ <;> omega
        obtain ⟨a,b,c⟩:=s6 s e2 e3
        exact ⟨a,b,rfl⟩
    · rw [dF h0,nN]
      have hB:=s1 h0
      rw [hB]
      refine ⟨hi,?_,fun s hs=>?_,fun s h1 h2=>?_⟩
      · show A.now≤x.At;omega
      · rcases hset s with e | ⟨_,e⟩
        · exact e
        · omega
      · exfalso
        rcases hset s with e | ⟨e,_⟩ <;> omega
theorem jJr {p:GPermitPlan} (hp:H6 p):RV p (Eu p):=by
 refine GI hp (d:=[]) (A:=⟨0,fun s=>bif lZ p s then ⟨0,[],(qK p s).To⟩ else ⟨0,[],0⟩,fun _=>none,[],[]⟩) ⟨fun s=>?_,fun x hx e=>?_,fun x hx y hy e=>?_,(by simp),fun x hx=>?_,List.Pairwise.nil,(fun s t e=>by cases e),Nat.le_refl _⟩
 ·unfold stA;simp only [];cases lZ p s <;> simp
 ·exfalso;unfold stA at e;simp only [] at e;cases hh:lZ p x.Name <;> rw [hh] at e <;> cases e
 ·exfalso;unfold stA at e;simp only [] at e;cases hh:lZ p x.Name <;> rw [hh] at e <;> cases e
 ·refine .inl ?_
  simp only []
  rw [BZ.2 ⟨x,hx,rfl⟩,ni,hp.JB hx]
end Go.KB
namespace Go.KB
set_option linter.unusedVariables false
theorem H7 {S O:Type} {n N:Nat} {f:S→Option (S ⊕ O)} (I:Nat→S→Prop) (Q:O→Prop) {s0:S} (h0:I 0 s0) (h:∀ i s,i<n→I i s→∃ s',f s=some (.inl s')∧I (i+1) s') (he:∀ s,I n s→∃ o,f s=some (.inr o)∧Q o) (hN:n<N):∃ o,eF f N s0=some o∧Q o:=by
 have key:∀ k i s,i+k=n→I i s→∀ M,k<M→∃ o,eF f M s=some o∧Q o:=by
  intro k
  induction k with
  | zero =>
   intro i s hi hs M hM
   obtain ⟨M,rfl⟩:∃ m,M=m+1:=⟨M - 1,by omega⟩
   have:i=n:=by omega
   subst this
   obtain ⟨o,h1,h2⟩:=he s hs
   exact ⟨o,by simp only [eF,h1],h2⟩
  | succ k ih =>
   intro i s hi hs M hM
   obtain ⟨M,rfl⟩:∃ m,M=m+1:=⟨M - 1,by omega⟩
   obtain ⟨s',h1,h2⟩:=h i s (by omega) hs
   simp only [eF,h1]
   exact ih (i+1) s' (by omega) h2 M (by omega)
 exact key n 0 s0 (by omega) h0 N (by omega)
theorem IQ {α β:Type} [DecidableEq α] (x k:α) (y:β):∀ m:List (α×β),kJ (qM m x y) k=(decide (k=x)||kJ m k)
 | []=>by simp [kJ,qM]
 | q :: r=>by
  unfold qM
  by_cases h:x=q.1
  ·rw [dT h,ni];unfold kJ;rw [← h];cases decide (k=x) <;> simp
  ·rw [dF h,nN];unfold kJ;rw [IQ x k y r]
   cases decide (k=q.1) <;> cases decide (k=x) <;> rfl
structure Pq (p:GPermitPlan) (es:Str→ah) (st:List (Str×ah)):Prop where
 get:∀ s,lZ p s=true→fU (⟨0,[],0⟩:ah) st s=es s
 has:∀ s,kJ st s=lZ p s
theorem Pq.set {p:GPermitPlan} {es:Str→ah} {st:List (Str×ah)} (h:Pq p es st) {n:Str} (hn:lZ p n=true) (e:ah):Pq p (fun s=>bif decide (s=n) then e else es s) (qM st n e):=by
 refine ⟨fun s hs=>?_,fun s=>?_⟩
 ·rw [FX]
  by_cases he:s=n
  ·rw [if_pos he,dT he];rfl
  ·rw [if_neg he,dF he];exact h.get s hs
 ·rw [IQ,h.has]
  by_cases he:s=n
  ·rw [dT he,he,hn];rfl
  ·rw [dF he];rfl
theorem Pq.congr {p:GPermitPlan} {es es':Str→ah} {st:List (Str×ah)} (h:Pq p es st) (he:∀ s,lZ p s=true→es s=es' s):Pq p es' st:=⟨fun s hs=>by rw [h.get s hs,he s hs],h.has⟩
structure RelB (p:GPermitPlan) (A:AO) (g:af) (mP:List (Str×ai)):Prop where
 plan:g.plan=p
 now:g.now=A.now
 Pv:∀ s,kJ mP s=(A.ts s).isSome
 Px:∀ s t,A.ts s=some t→fU (⟨0,0,0⟩:ai) mP s=t
structure RelA (p:GPermitPlan) (A:AO) (g:af) (st:List (Str×ah)) (mP:List (Str×ai)) (pe:List (Str×Str)):Prop where
 b:RelB p A g mP
 st:Pq p A.es st
 pe:pe.Perm A.pp
 done:g.done=A.done
structure MS (A:AO):Prop where
 tm:0≤A.now∧A.now≤1000000
 st:∀ s,0≤stA A s∧stA A s≤6
 tt:∀ s t,A.ts s=some t→0≤t.at_∧t.at_≤1000000
 pl:A.pp.length<1000000
theorem WA.bd {p:GPermitPlan} {d:List GEvent} {A:AO} (h:WA p d A) (hd:d.length<1000000):MS A:=⟨h.tm,h.st,h.tt,Nat.lt_of_le_of_lt h.pl hd⟩
section
variable {N:Nat} {p:GPermitPlan} {A:AO} {g:af} {st:List (Str×ah)} {mP:List (Str×ai)} {pe:List (Str×Str)} (hp:H8 p) (hN:1000000≤N) (h:RelB p A g mP) (b:MS A)
include hp hN h b
theorem jJs {s:Str}:mZ N g st mP pe s=some (WG p A s,WE p A s):=by
 have hs:=hp.s
 unfold mZ WG WE
 rw [h.plan,yK (by omega) hN,bS,h.Pv s,h.now]
 show (bif !(zM p s).fG then _ else _)=_
 cases (zM p s).fG with
 | false=>rfl
 | true =>
  simp only [Bool.not_true,nN]
  cases ht:A.ts s with
  | none=>rfl
  | some t =>
   have h1:=b.tt s t ht
   have h2:=b.tm
   rw [h.Px s t ht,w64i (by omega) (by omega)]
   simp only [Option.isSome_some,Bool.true_and,zy,zx]
theorem MB {x:aP} {s:Str}:jT N g st mP pe s x=some (KD p A x s):=by
 unfold jT KD
 rw [jJs hp hN h b,bS,uz]
 cases decide (x.Kind=0) <;> rfl
theorem Py {x:aP}:kS N g st mP pe x=some (Aq p A x):=by
 have hl:=Ug (x:=x) hp
 unfold kS
 rw [h.plan,Ze hp hN,bS]
 have hi:fA N g st mP pe (Ie p x) x=some (MV (KD p A x) (Ie p x)):=by
  unfold fA
  refine yV (fun i hi=>?_) ?_ (by omega)
  ·unfold dZ
   rw [dw,dT (by omega),ni,jI hi,bS,MB hp hN h b,bS,rJ (by omega)]
  ·unfold dZ
   rw [dw,dF (by omega),nN]
 have hd:eG N g st mP pe (Ie p x) x=some (Aq p A x):=by
  unfold eG
  rw [hi,bS]
  refine del_eq (g:=KD p A x) (fun xs i j hj hij hj2 hm=>?_) (fun xs i=>?_) (by omega) hN
  ·unfold dX
   simp only []
   rw [dw,dT (by omega),ni,jI hj,bS,MB hp hN h b,bS,rJ (by omega),rJ (by omega),jI (by omega),bS,Int.toNat_natCast]
  ·unfold dX
   simp only []
   rw [dw,dF (by omega),nN]
 rw [hd];rfl
end
theorem H9 {N:Nat} {p:GPermitPlan} {A:AO} {g:af} {st:List (Str×ah)} {mP:List (Str×ai)} {pe:List (Str×Str)} (hN:1000000≤N) (hst:Pq p A.es st) {n:Str} {l:List Int} (hn:lZ p n=true) (hl:l.length<100):fE N g st mP pe n l=some (l.contains (stA A n)):=by
 unfold fE
 rw [Pz (by omega) hN,bS,hst.get n hn];rfl
theorem MC {N:Nat} {p:GPermitPlan} {A:AO} {g:af} {st:List (Str×ah)} {mP:List (Str×ai)} {pe:List (Str×Str)} (hp:H8 p) (hN:1000000≤N) (hst:Pq p A.es st) {x:aP} (hx:x.Locks.length<1000) (hlk:∀ l ∈ x.Locks,lZ p l=true):jB N g st mP pe x=some (JC A x):=by
 have hlim:lim ≥ 1000000:=by decide
 unfold jB
 have hc:iC N x.Locks=some x.Locks:=by
  unfold iC
  rw [FQ (by simp only [List.length_nil];omega)];rfl
 rw [hc,bS]
 have h1:∀ s,je N g st mP pe s=some (decide (stA A s=2))∨¬ lZ p s=true:=by
  intro s
  by_cases hs:lZ p s=true
  ·left
   unfold je
   rw [H9 hN hst hs (by decide),bS]
   congr 1
   rw [Bool.eq_iff_iff];simp
  ·exact .inr hs
 have h2:∀ s ∈ x.Locks,je N g st mP pe s=some (decide (stA A s=2)):=fun s hs=>(h1 s).elim id fun hn=>absurd (hlk s hs) hn
 have hi:eH N g st mP pe x.Locks=some (MV (fun s=>decide (stA A s=2)) x.Locks):=by
  unfold eH
  refine yV (fun i hi=>?_) ?_ (by omega)
  ·unfold dY
   rw [dw,dT (by omega),ni,jI hi,bS,h2 _ (List.getElem_mem hi),bS,rJ (by omega)]
  ·unfold dY
   rw [dw,dF (by omega),nN]
 unfold fO
 rw [hi,bS,del_eq (g:=fun s=>decide (stA A s=2)) (f:=dJ N g st mP pe) (fun xs i j hj hij hj2 hm=>?_) (fun xs i=>?_) (by omega) hN]
 ·rfl
 ·unfold dJ
  simp only []
  rw [dw,dT (by omega),ni,jI hj,bS,h2 _ hm,bS,rJ (by omega),rJ (by omega),jI (by omega),bS,Int.toNat_natCast]
 ·unfold dJ
  simp only []
  rw [dw,dF (by omega),nN]
def JE (p:GPermitPlan) (i:Nat) (s:Str):Bool:=(p.aH.take i).any (Qa s)
theorem Nz {p:GPermitPlan} {s:Str}:JE p p.aH.length s=lZ p s:=by unfold JE lZ;rw [List.take_length]
theorem KF {p:GPermitPlan} {i:Nat} (hi:i<p.aH.length) {s:Str}:JE p (i+1) s=(JE p i s||decide (p.aH[i].Name=s)):=by
 unfold JE;rw [List.take_succ_eq_append_getElem hi,List.any_append];simp [Qa]
theorem WL {p:GPermitPlan} (ho:H6 p) {i:Nat} (hi:i<p.aH.length):JE p i p.aH[i].Name=false:=by
 unfold JE
 rw [Bool.eq_false_iff]
 intro hx
 rw [List.any_eq_true] at hx
 obtain ⟨y,hy,hg⟩:=hx
 obtain ⟨j,hj,rfl⟩:=List.getElem_of_mem hy
 rw [List.length_take] at hj
 rw [List.getElem_take] at hg
 simp only [Qa,decide_eq_true_eq] at hg
 have:=ho.pd j i (by omega) hi (by rw [Sr (by omega),Sr hi,hg])
 omega
theorem GH {p:GPermitPlan} {i:Nat} (hi:i<p.aH.length):lZ p p.aH[i].Name=true:=BZ.2 ⟨_,List.getElem_mem hi,rfl⟩
theorem Zf {N:Nat} {p:GPermitPlan} {A:AO} {g:af} {st:List (Str×ah)} {mP:List (Str×ai)} {pe:List (Str×Str)} (hp:H8 p) (ho:H6 p) (hN:1000000≤N) (h:RelB p A g mP) (hst:Pq p A.es st) (b:MS A):∃ st',eF (l9 N g mP pe) N (0,st)=some st'∧Pq p (vI p A).es st':=by
 have hm:=hp.m
 refine H7 (n:=p.aH.length) (fun i s=>s.1=(i:Int)∧Pq p (fun s=>bif JE p i s then yM A.now (A.es s) else A.es s) s.2) _ ⟨rfl,hst.congr fun s _=>by unfold JE;simp⟩ (fun i s hi hs=>?_) (fun s hs=>?_) (by omega)
 ·obtain ⟨s1,st'⟩:=s
  obtain ⟨rfl,hr⟩:=hs
  simp only [] at hr
  have hn:=GH hi
  have he:(bif JE p i p.aH[i].Name then yM A.now (A.es p.aH[i].Name) else A.es p.aH[i].Name)=A.es p.aH[i].Name:=by rw [WL ho hi];rfl
  have hg:=hr.get _ hn
  rw [he] at hg
  have hst:=b.st p.aH[i].Name
  unfold stA at hst
  have hc:([0,1,2,3]:List Int).contains (A.es p.aH[i].Name).state=decide ((A.es p.aH[i].Name).state≤3):=by
   rw [Bool.eq_iff_iff];simp;omega
  have hi':fE N g st' mP pe p.aH[i].Name [0,1,2,3]=some (decide ((A.es p.aH[i].Name).state≤3)):=by
   unfold fE
   rw [Pz (by decide) hN,bS,hg,hc]
  have hnext:∀ (e:ah),e=yM A.now (A.es p.aH[i].Name)→∀ s,lZ p s=true→(bif decide (s=p.aH[i].Name) then e else (bif JE p i s then yM A.now (A.es s) else A.es s))=(bif JE p (i+1) s then yM A.now (A.es s) else A.es s):=by
   intro e hee s _
   rw [KF hi]
   by_cases hs:s=p.aH[i].Name
   ·subst hs;rw [dT rfl,Bool.or_true,ni,ni,hee]
   ·rw [dF hs,dF (fun x=>hs x.symm),Bool.or_false];rfl
  unfold l9
  simp only []
  rw [h.plan,dw,dT (by omega),ni,jI hi,bS,hi',bS,hg,zy,h.now,rJ (by omega)]
  cases hx:(decide ((A.es p.aH[i].Name).state≤3)&&decide ((A.es p.aH[i].Name).wo≤A.now)) with
  | true =>
   refine ⟨_,rfl,rfl,?_⟩
   rw [hg]
   exact (hr.set hn _).congr (hnext _ (by unfold yM;rw [hx];rfl))
  | false =>
   refine ⟨_,rfl,rfl,?_⟩
   refine hr.congr fun s hs=>?_
   rw [← hnext _ rfl s hs]
   by_cases he2:s=p.aH[i].Name
   ·subst he2;rw [dT rfl,ni,he];unfold yM;rw [hx];rfl
   ·rw [dF he2];rfl
 ·obtain ⟨s1,st'⟩:=s
  obtain ⟨rfl,hr⟩:=hs
  unfold l9
  simp only []
  rw [h.plan,dw,dF (by omega),nN]
  exact ⟨_,rfl,hr.congr fun s _=>by rw [Nz];rfl⟩
theorem jJt {p:GPermitPlan} (ho:H6 p) {B:AO} {l:Str} (hl:lZ p l=true) (hk:(qK p l).Kind=5):(zD p B).es l=B.es l:=by
 show (bif lZ p l&&decide (stA B l=2)&&yU p B (qK p l) then ({ B.es l with state:=3 }:ah) else B.es l)=_
 rw [O8 ho (zk hl).1 hk,Bool.and_false];rfl
theorem gt0 {α:Type} {l:List α}:aS .gtr (List.length l:Int) 0 = !l.isEmpty:=by
 rw [wB]
 cases l with
 | nil=>rfl
 | cons x r=>simp
theorem Un {N:Nat} {p:GPermitPlan} {B:AO} {g:af} {st:List (Str×ah)} {mP:List (Str×ai)} {pe:List (Str×Str)} (hp:H8 p) (ho:H6 p) (hN:1000000≤N) (h:RelB p B g mP) (hst:Pq p B.es st) (b:MS B):∃ o:Bool×List (Str×ah),eF (lF N g mP pe) N (false,0,st)=some o∧Pq p (zD p B).es o.2∧o.1=p.aH.any (fun x=>decide (stA B x.Name=2)&&yU p B x):=by
 have hm:=hp.m
 refine H7 (n:=p.aH.length) (fun i s=>s.2.1=(i:Int)∧Pq p (fun s=>bif JE p i s then (zD p B).es s else B.es s) s.2.2∧s.1=(p.aH.take i).any (fun x=>decide (stA B x.Name=2)&&yU p B x)) _ ⟨rfl,hst.congr fun s _=>by unfold JE;simp,by simp⟩ (fun i s hi hs=>?_) (fun s hs=>?_) (by omega)
 ·obtain ⟨fl,s1,st'⟩:=s
  obtain ⟨rfl,hr,rfl⟩:=hs
  simp only [] at hr
  have hx:=List.getElem_mem hi
  have hn:=GH hi
  have he:(bif JE p i p.aH[i].Name then (zD p B).es p.aH[i].Name else B.es p.aH[i].Name)=B.es p.aH[i].Name:=by rw [WL ho hi];rfl
  have hg:=hr.get _ hn
  rw [he] at hg
  have hi':fE N g st' mP pe p.aH[i].Name [2]=some (decide (stA B p.aH[i].Name=2)):=by
   unfold fE
   rw [Pz (by decide) hN,bS,hg]
   congr 1
   unfold stA
   rw [Bool.eq_iff_iff];simp
  have hlk:jB N g st' mP pe p.aH[i]=some (JC B p.aH[i]):=by
   rw [MC (A:={ B with es:=fun s=>bif JE p i s then (zD p B).es s else B.es s }) hp hN hr (hp.l _ hx) (fun l hl=>(ho.lk _ hx l hl).1)]
   congr 1
   unfold JC
   refine List.filter_congr fun l hl=>?_
   have:=ho.lk _ hx l hl
   have e:stA { B with es:=fun s=>bif JE p i s then (zD p B).es s else B.es s } l=stA B l:=by
    show (bif JE p i l then (zD p B).es l else B.es l).state=_
    rw [jJt ho this.1 this.2.1]
    cases JE p i l <;> rfl
   rw [e]
  have hnext:∀ (e:ah),e=(zD p B).es p.aH[i].Name→∀ s,lZ p s=true→(bif decide (s=p.aH[i].Name) then e else (bif JE p i s then (zD p B).es s else B.es s))=(bif JE p (i+1) s then (zD p B).es s else B.es s):=by
   intro e hee s _
   rw [KF hi]
   by_cases hs:s=p.aH[i].Name
   ·subst hs;rw [dT rfl,Bool.or_true,ni,ni,hee]
   ·rw [dF hs,dF (fun x=>hs x.symm),Bool.or_false];rfl
  have hsus:(zD p B).es p.aH[i].Name=(bif decide (stA B p.aH[i].Name=2)&&yU p B p.aH[i] then ({ B.es p.aH[i].Name with state:=3 }:ah) else B.es p.aH[i].Name):=by
   show (bif lZ p p.aH[i].Name&&decide (stA B p.aH[i].Name=2)&&yU p B (qK p p.aH[i].Name) then ({ B.es p.aH[i].Name with state:=3 }:ah) else B.es p.aH[i].Name)=_
   rw [hn,ho.JB hx,Bool.true_and]
  have hany:(p.aH.take (i+1)).any (fun x=>decide (stA B x.Name=2)&&yU p B x)=((p.aH.take i).any (fun x=>decide (stA B x.Name=2)&&yU p B x)||(decide (stA B p.aH[i].Name=2)&&yU p B p.aH[i])):=by
   rw [List.take_succ_eq_append_getElem hi,List.any_append];simp
  have hsame:(decide (stA B p.aH[i].Name=2)&&yU p B p.aH[i])=false→Pq p (fun s=>bif JE p (i+1) s then (zD p B).es s else B.es s) st':=fun hb=>hr.congr fun s hs=>by
   rw [← hnext _ rfl s hs]
   by_cases he2:s=p.aH[i].Name
   ·subst he2;rw [dT rfl,ni,he,hsus,hb];rfl
   ·rw [dF he2];rfl
  have hset:(decide (stA B p.aH[i].Name=2)&&yU p B p.aH[i])=true→Pq p (fun s=>bif JE p (i+1) s then (zD p B).es s else B.es s) (qM st' p.aH[i].Name ({ B.es p.aH[i].Name with state:=3 }:ah)):=fun hb =>
   (hr.set hn _).congr (hnext _ (by rw [hsus,hb];rfl))
  unfold lF
  simp only []
  rw [h.plan,dw,dT (by omega),ni,jI hi,bS,hi',bS,rJ (by omega),hany]
  by_cases h2:stA B p.aH[i].Name=2
  ·rw [dT h2] at hsame hset ⊢
   simp only [ni,Bool.true_and] at hsame hset ⊢
   rw [Py hp hN h b,bS,gt0]
   unfold yU at hsame hset ⊢
   cases hla:(Aq p B p.aH[i]).isEmpty with
   | false =>
    rw [hla] at hset
    simp only [Bool.not_false,Bool.true_or,Bool.or_true,Bool.not_true,nN,ni,bS] at hset ⊢
    refine ⟨_,rfl,rfl,?_,rfl⟩
    rw [hg];exact hset trivial
   | true =>
    rw [hla] at hset hsame
    simp only [Bool.not_false,Bool.false_or,Bool.not_true,ni,hlk,bS,gt0] at hset hsame ⊢
    cases hu:(JC B p.aH[i]).isEmpty with
    | false =>
     rw [hu] at hset
     refine ⟨_,rfl,rfl,?_,by simp⟩
     rw [hg];exact hset rfl
    | true =>
     rw [hu] at hsame
     exact ⟨_,rfl,rfl,hsame rfl,by simp⟩
  ·rw [dF h2] at hsame ⊢
   exact ⟨_,rfl,rfl,hsame rfl,by simp⟩
 ·obtain ⟨fl,s1,st'⟩:=s
  obtain ⟨rfl,hr,rfl⟩:=hs
  unfold lF
  simp only []
  rw [h.plan,dw,dF (by omega),nN]
  exact ⟨_,rfl,hr.congr fun s hs=>by rw [Nz,hs];rfl,by rw [List.take_length]⟩
theorem MS.exp {p:GPermitPlan} {A:AO} (b:MS A):MS (vI p A):=⟨b.tm,fun s=>by
 rcases Vx (p:=p) (A:=A) (s:=s) with e | ⟨e,_⟩ <;> rw [e]
 ·exact b.st s
 ·decide,b.tt,b.pl⟩
theorem MS.sus {p:GPermitPlan} {A:AO} (b:MS A):MS (zD p A):=⟨b.tm,fun s=>by
 rcases Ph (p:=p) (A:=A) (s:=s) with ⟨e,_⟩ | ⟨e,_⟩ <;> rw [e]
 ·exact b.st s
 ·decide,b.tt,b.pl⟩
theorem MS.settle {p:GPermitPlan} {A:AO} (b:MS A):MS (ig p A):=b.exp.sus
theorem LH {N:Nat} {p:GPermitPlan} {A:AO} {g:af} {st:List (Str×ah)} {mP:List (Str×ai)} {pe:List (Str×Str)} (hp:H8 p) (ho:H6 p) (hN:1000000≤N) (h:RelB p A g mP) (hst:Pq p A.es st) (b:MS A):∃ st',lJ N g st mP pe=some st'∧Pq p (ig p A).es st':=by
 unfold lJ
 obtain ⟨s1,h1,r1⟩:=Zf (pe:=pe) hp ho hN h hst b
 rw [h1,bS]
 have hE:RelB p (vI p A) g mP:=⟨h.plan,h.now,h.Pv,h.Px⟩
 have hS:RelB p (ig p A) g mP:=⟨h.plan,h.now,h.Pv,h.Px⟩
 obtain ⟨⟨f2,s2⟩,h2,r2,e2⟩:=Un (pe:=pe) hp ho hN hE r1 b.exp
 obtain ⟨⟨f3,s3⟩,h3,r3,e3⟩:=Un (pe:=pe) hp ho hN hS r2 b.settle
 have e3':f3=false:=by
  rw [show f3=_ from e3,Bool.eq_false_iff]
  intro hx
  rw [List.any_eq_true] at hx
  obtain ⟨x,hx,hb⟩:=hx
  rw [Bool.and_eq_true,decide_eq_true_eq] at hb
  rw [Ih ho hx hb.1] at hb
  cases hb.2
 subst e3'
 obtain ⟨M,rfl⟩:∃ M,N=M+3:=⟨N - 3,by omega⟩
 have step:∀ (st:List (Str×ah)) (o:Bool×List (Str×ah)),eF (lF (M+3) g mP pe) (M+3) (false,0,st)=some o→mg (M+3) g mP pe (true,st)=some (.inl o):=by
  intro st o ho
  unfold mg
  rw [ni,ho];rfl
 have stop:∀ st:List (Str×ah),mg (M+3) g mP pe (false,st)=some (.inr st):=fun st=>rfl
 cases f2 with
 | false =>
  refine ⟨s2,?_,r2⟩
  rw [show M+3=(M+2)+1 from rfl]
  simp only [eF,step _ _ h2,stop];rfl
 | true =>
  refine ⟨s3,?_,r3.congr fun s hs=>?_⟩
  ·simp only [eF,step _ _ h2,step _ _ h3,stop];rfl
  ·show (bif lZ p s&&decide (stA (ig p A) s=2)&&yU p (ig p A) (qK p s) then ({ (ig p A).es s with state:=3 }:ah) else (ig p A).es s)=_
   by_cases h2:stA (ig p A) s=2
   ·obtain ⟨hm,hnm⟩:=zk hs
    rw [Ih ho hm (by rw [hnm];exact h2),Bool.and_false];rfl
   ·rw [dF h2,Bool.and_false,Bool.false_and];rfl
end Go.KB
namespace Go.KB
set_option linter.unusedVariables false
theorem XF {N:Nat} {l:List cZ} {f:cZ→Option Bool} {g:cZ→Bool} (hf:∀ y,f y=some (g y)) (hl:l.length<1000000) (hN:1000000≤N):jb N l f=some (MV g l):=by
 unfold jb
 refine yV (fun i hi=>?_) ?_ (by omega)
 ·unfold iK
  rw [dw,dT (by omega),ni,jI hi,bS,hf,bS,rJ (by omega)]
 ·unfold iK
  rw [dw,dF (by omega),nN]
theorem ixI_ge {α:Type} {g:α→Bool} {l:List α}:aS .geq (MV g l) 0=l.any g:=by
 have:=GK (g:=g) (l:=l)
 rw [zx]
 cases h2:l.any g with
 | true=>rw [h2] at this;simp at this;rw [dT (by omega)]
 | false=>rw [h2] at this;simp at this;rw [dF (by omega)]
theorem Uo {N:Nat} {p:GPermitPlan} {x y:aP} (hp:H8 p) (hN:1000000≤N):vk N p x y=some (yY p x y):=by
 have hx:=hp.x
 unfold vk yY
 rw [uj,KG hp hN]
 cases decide (x.Name=y.Name) with
 | true=>rfl
 | false =>
  rw [nN,nN,bS]
  unfold jJ
  rw [XF (g:=fun e=>exE e (pI p x.Space y.Space) x.Kind y.Kind) (fun e=>by unfold sQ exE;simp only [zy,uz]) (by omega) hN,bS,ixI_ge];rfl
theorem cloneS {N:Nat} {l:List dH} (h:l.length<1000):lQ N l=some l:=by
 have hlim:lim ≥ 1000000:=by decide
 unfold lQ;rw [FQ (by simp only [List.length_nil];omega)];rfl
theorem cloneP {N:Nat} {l:List aP} (h:l.length<1000):kY N l=some l:=by
 have hlim:lim ≥ 1000000:=by decide
 unfold kY;rw [FQ (by simp only [List.length_nil];omega)];rfl
theorem cloneE {N:Nat} {l:List cZ} (h:l.length<1000):jH N l=some l:=by
 have hlim:lim ≥ 1000000:=by decide
 unfold jH;rw [FQ (by simp only [List.length_nil];omega)];rfl
theorem Zg {N:Nat} {l:List Str} (h:l.length<1000):iC N l=some l:=by
 have hlim:lim ≥ 1000000:=by decide
 unfold iC;rw [FQ (by simp only [List.length_nil];omega)];rfl
theorem Ur {α:Type} {l:List α} {i:Nat} (h:i<l.length):l.set i l[i]=l:=List.set_getElem_self h
theorem XG {N:Nat} {p:GPermitPlan} (hp:H8 p) (hN:1000000≤N):xC N p=some p:=by
 have h1:=hp.s
 have h2:=hp.x
 have h3:=hp.m
 unfold xC
 rw [cloneS h1,cloneE h2,cloneP h3]
 simp only [bS]
 have e2:eF (pV N p.dA) N (0,p.dA)=some p.dA:=LJ (f:=pV N p.dA) (n:=p.dA.length) (fun i=>((i:Int),p.dA)) p.dA (fun i hi=>by
  unfold pV
  simp only []
  rw [dw,dT (by omega),ni,jI hi,bS,Zg (hp.n _ (List.getElem_mem hi)),bS,bS,rJ (by omega),Int.toNat_natCast,Ur hi]) (by
  unfold pV
  simp only []
  rw [dw,dF (by omega),nN]) (by omega)
 have e1:eF (pW N p.aH) N (0,p.aH)=some p.aH:=LJ (f:=pW N p.aH) (n:=p.aH.length) (fun i=>((i:Int),p.aH)) p.aH (fun i hi=>by
  unfold pW
  simp only []
  rw [dw,dT (by omega),ni,jI hi,bS,Zg (hp.l _ (List.getElem_mem hi)),bS,bS,rJ (by omega),Int.toNat_natCast,Ur hi]) (by
  unfold pW
  simp only []
  rw [dw,dF (by omega),nN]) (by omega)
 rw [e2,e1];rfl
def newE (p:GPermitPlan):AO:=⟨0,fun s=>bif lZ p s then ⟨0,[],(qK p s).To⟩ else ⟨0,[],0⟩,fun _=>none,[],[]⟩
theorem jJc (p:GPermitPlan):MS (newE p):=⟨⟨by show (0:Int)≤0;omega,by show (0:Int)≤1000000;omega⟩,fun s=>by unfold stA newE;simp only [];cases lZ p s <;> simp,(fun s t e=>by cases e),by show 0<1000000;omega⟩
theorem Zh {N:Nat} {p:GPermitPlan} (hp:H8 p) (ho:H6 p) (hN:1000000≤N):∃ st,eF (oQ N p) N (0,([]:List (Str×ah)))=some st∧Pq p (newE p).es st:=by
 have hm:=hp.m
 have key:∃ st,eF (oQ N p) N (0,([]:List (Str×ah)))=some st∧(∀ n,JE p p.aH.length n=true→fU (⟨0,[],0⟩:ah) st n=⟨0,[],(qK p n).To⟩)∧∀ n,kJ st n=JE p p.aH.length n:=by
  refine H7 (N:=N) (n:=p.aH.length) (f:=oQ N p) (s0:=(0,([]:List (Str×ah)))) (fun i s=>s.1=(i:Int)∧(∀ n,JE p i n=true→fU (⟨0,[],0⟩:ah) s.2 n=⟨0,[],(qK p n).To⟩)∧∀ n,kJ s.2 n=JE p i n) (fun st=>(∀ n,JE p p.aH.length n=true→fU (⟨0,[],0⟩:ah) st n=⟨0,[],(qK p n).To⟩)∧∀ n,kJ st n=JE p p.aH.length n) ⟨rfl,fun n h=>by unfold JE at h;simp at h,fun n=>by unfold JE;simp [kJ]⟩ (fun i s hi hs=>?_) (fun s hs=>?_) (by omega)
  ·obtain ⟨s1,st⟩:=s
   obtain ⟨rfl,h1,h2⟩:=hs
   simp only [] at h1 h2
   refine ⟨_,by unfold oQ;simp only [];rw [dw,dT (by omega),ni,jI hi,bS,rJ (by omega)],rfl,fun n hn=>?_,fun n=>?_⟩
   ·simp only []
    rw [FX]
    by_cases he:n=p.aH[i].Name
    ·rw [if_pos he,he,ho.JB (List.getElem_mem hi)]
    ·rw [if_neg he]
     rw [KF hi,dF (fun x=>he x.symm),Bool.or_false] at hn
     exact h1 n hn
   ·simp only []
    rw [IQ,h2,KF hi,Bool.or_comm]
    congr 1
    exact decide_eq_decide.2 ⟨Eq.symm,Eq.symm⟩
  ·obtain ⟨s1,st⟩:=s
   obtain ⟨rfl,h1,h2⟩:=hs
   refine ⟨st,?_,h1,h2⟩
   unfold oQ
   simp only []
   rw [dw,dF (by omega),nN]
 obtain ⟨st,h1,h2,h3⟩:=key
 exact ⟨st,h1,fun s hs=>by rw [h2 s (by rw [Nz];exact hs)];show _=(bif lZ p s then _ else _);rw [hs];rfl,fun s=>by rw [h3,Nz]⟩
theorem New_eq {N:Nat} {p:GPermitPlan} (hp:H8 p) (ho:uU p=0) (hN:1000000≤N):∃ st,rV N p=some (some ((⟨p,0,[]⟩:af),st,[],[]),0)∧RelA p (Eu p) (⟨p,0,[]⟩:af) st [] []:=by
 have hk:=okP ho
 unfold rV
 rw [Sv hp hN,ho,bS,qV,dT rfl,Bool.not_true,nN,XG hp hN,bS]
 obtain ⟨s1,h1,r1⟩:=Zh hp hk hN
 rw [h1,bS]
 have hb:RelB p (newE p) (⟨p,0,[]⟩:af) []:=⟨rfl,rfl,fun s=>rfl,fun s t e=>by cases e⟩
 obtain ⟨s2,h2,r2⟩:=LH (pe:=([]:List (Str×Str))) hp hk hN hb r1 (jJc p)
 rw [h2,bS]
 exact ⟨s2,rfl,⟨rfl,rfl,fun s=>rfl,fun s t e=>by cases e⟩,r2,List.Perm.refl _,rfl⟩
end Go.KB
