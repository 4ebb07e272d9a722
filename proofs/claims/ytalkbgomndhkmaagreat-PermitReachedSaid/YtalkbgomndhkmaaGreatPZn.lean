/- Plain laws of chapter 7: what stays true in an office. Plain laws of chapter 7: the program's office settles. Plain laws of chapter 7: which permits exclude each other; the new office. No condition. -/
import Derived.Test.YtalkbgomndhkmaaGreatPZm
namespace Go.KB
set_option linter.unusedVariables false
theorem bifD {α:Type} {q:Prop} [Decidable q] {a b:α}:(bif decide q then a else b)=if q then a else b:=by
 by_cases h:q
 ·rw [dT h,if_pos h];rfl
 ·rw [dF h,if_neg h];rfl
structure WA (p:GPermitPlan) (d:List GEvent) (A:AO):Prop where
 st:∀ s,0≤stA A s∧stA A s≤6
 fr:∀ x ∈ p.ax,stA A x.Name=2→x.From≤A.now
 ex:∀ x ∈ p.ax,∀ y ∈ p.ax,stA A x.Name=2→stA A y.Name=2→tX p x y=false
 tm:0≤A.now∧A.now≤1000000
 to:∀ x ∈ p.ax,(A.es x.Name).Be=x.To∨∃ v ∈ d,v.Op=11∧v.Name=x.Name∧v.To=(A.es x.Name).Be
 pp:A.pp.Pairwise (fun a b=>a.1<b.1)
 tt:∀ s t,A.ts s=some t→0≤t.at_∧t.at_≤1000000
 pl:A.pp.length≤d.length
structure Lp (p:GPermitPlan) (A:AO):Prop where
 w:WA p A.done A
 un:∀ x ∈ p.ax,stA A x.Name=2→yS p A x=false
 li:∀ x ∈ p.ax,stA A x.Name≤3→A.now<(A.es x.Name).Be
theorem WA.le {p:GPermitPlan} {d:List GEvent} {A A':AO} (h:WA p d A) (hs:∀ s,stA A' s=stA A s∨(0≤stA A' s∧stA A' s≤6∧stA A' s≠2)) (ht:∀ s,(A'.es s).Be=(A.es s).Be) (hn:A.now≤A'.now∧A'.now≤1000000) (hp:A'.pp.Pairwise (fun a b=>a.1<b.1)) (hq:∀ s t,A'.ts s=some t→A.ts s=some t∨(0≤t.at_∧t.at_≤1000000)) (hl:A'.pp.length≤d.length):WA p d A':=by
 have h2:∀ s,stA A' s=2→stA A s=2:=fun s e=>by
  rcases hs s with h1 | h1
  ·rw [← h1];exact e
  ·exact absurd e h1.2.2
 have htm:=h.tm
 refine ⟨fun s=>?_,fun x hx e=>?_,fun x hx y hy e f=>h.ex x hx y hy (h2 _ e) (h2 _ f),⟨by omega,hn.2⟩,fun x hx=>?_,hp,fun s t e=>(hq s t e).elim (h.tt s t) id,hl⟩
 ·rcases hs s with h1 | h1
  ·rw [h1];exact h.st s
  ·exact ⟨h1.1,h1.2.1⟩
 ·have:=h.fr x hx (h2 _ e);omega
 ·rw [ht];exact h.to x hx
theorem WA.mono {p:GPermitPlan} {d d':List GEvent} {A:AO} (h:WA p d A) (hd:∀ v ∈ d,v ∈ d') (hl:d.length≤d'.length):WA p d' A :=
 ⟨h.st,h.fr,h.ex,h.tm,fun x hx=>(h.to x hx).imp id fun ⟨v,hv,e⟩=>⟨v,hd v hv,e⟩,h.pp,h.tt,by have:=h.pl;omega⟩
theorem WA.snoc {p:GPermitPlan} {d:List GEvent} {A:AO} {x:GEvent} (h:WA p d A):WA p (d ++ [x]) A:=h.mono (fun v hv=>List.mem_append_left _ hv) (by simp)
theorem Yu {A:AO} {n s:Str} {e:af}:(Xg A n e).es s=if s=n then e else A.es s:=bifD
theorem MO {A:AO} {n s:Str} {e:af}:stA (Xg A n e) s=if s=n then e.state else stA A s:=by
 unfold stA;rw [Yu];split <;> rfl
theorem WA.up {p:GPermitPlan} {d:List GEvent} {A:AO} {n:Str} {e:af} (h:WA p d A) (he:0≤e.state∧e.state≤6) (h2:e.state=2→∀ x ∈ p.ax,x.Name=n→x.From≤A.now∧∀ y ∈ p.ax,stA A y.Name=2→tX p x y=false) (ht:e.Be=(A.es n).Be∨∃ v ∈ d,v.Op=11∧v.Name=n∧v.To=e.Be):WA p d (Xg A n e):=by
 refine ⟨fun s=>?_,fun x hx=>?_,fun x hx y hy=>?_,h.tm,fun x hx=>?_,h.pp,h.tt,h.pl⟩
 ·rw [MO];split
  ·exact he
  ·exact h.st s
 ·rw [MO];split
  ·rename_i hn;intro e2;exact (h2 e2 x hx hn).1
  ·intro e2;exact h.fr x hx e2
 ·rw [MO,MO]
  split
  ·rename_i hn
   split
   ·rename_i hm;intro _ _;unfold tX;rw [dT (hn.trans hm.symm)];rfl
   ·intro e2 f2;exact (h2 e2 x hx hn).2 y hy f2
  ·split
   ·rename_i hm;intro e2 f2;rw [F8];exact (h2 f2 y hy hm).2 x hx e2
   ·exact h.ex x hx y hy
 ·rw [Yu]
  split
  ·rename_i hn
   rcases ht with ht | ⟨v,hv,a,b,c⟩
   ·rw [ht,← hn];exact h.to x hx
   ·exact .inr ⟨v,hv,a,b.trans hn.symm,c⟩
  ·exact h.to x hx
theorem Rw {p:GPermitPlan} {A:AO} {s:Str}:stA (Eo p A) s=stA A s∨(stA (Eo p A) s=6∧stA A s≤3∧(A.es s).Be≤A.now):=by
 unfold stA Eo Kv
 simp only []
 cases mg p s with
 | false=>exact .inl rfl
 | true =>
  rw [lN]
  by_cases h:(A.es s).state≤3
  ·rw [dT h]
   by_cases h1:(A.es s).Be≤A.now
   ·rw [dT h1];exact .inr ⟨rfl,h,h1⟩
   ·rw [dF h1];exact .inl rfl
  ·rw [dF h];exact .inl rfl
theorem ZM {p:GPermitPlan} {A:AO} {s:Str}:((Eo p A).es s).Be=(A.es s).Be:=by
 unfold Eo Kv
 simp only []
 cases mg p s with
 | false=>rfl
 | true=>rw [lN];cases (decide ((A.es s).state≤3)&&decide ((A.es s).Be≤A.now)) <;> rfl
theorem ZN {p:GPermitPlan} {A:AO} {s:Str} (hs:mg p s=true) (h:stA (Eo p A) s≤3):A.now<(A.es s).Be:=by
 unfold stA Eo Kv at h
 simp only [] at h
 rw [hs,lN] at h
 by_cases h3:(A.es s).state≤3
 ·rw [dT h3] at h
  by_cases h1:(A.es s).Be≤A.now
  ·rw [dT h1] at h;simp at h
  ·omega
 ·rw [dF h3] at h;simp at h;omega
theorem Kw {p:GPermitPlan} {A:AO} {s:Str}:(stA (Cc p A) s=stA A s∧¬ (mg p s=true∧stA A s=2∧yS p A (qH p s)=true))∨(stA (Cc p A) s=3∧stA A s=2∧yS p A (qH p s)=true):=by
 have e:stA (Cc p A) s=(bif mg p s&&decide (stA A s=2)&&yS p A (qH p s) then ({ A.es s with state:=3 }:af) else A.es s).state:=rfl
 rw [e]
 cases h1:mg p s with
 | false=>exact .inl ⟨rfl,fun h=>by cases h.1⟩
 | true =>
  by_cases h2:stA A s=2
  ·rw [dT h2]
   cases h3:yS p A (qH p s) with
   | false=>exact .inl ⟨rfl,fun h=>by cases h.2.2⟩
   | true=>exact .inr ⟨rfl,h2,rfl⟩
  ·rw [dF h2];exact .inl ⟨rfl,fun h=>h2 h.2.1⟩
theorem ZO {p:GPermitPlan} {A:AO} {s:Str}:((Cc p A).es s).Be=(A.es s).Be:=by
 unfold Cc
 simp only []
 cases (mg p s&&decide (stA A s=2)&&yS p A (qH p s)) <;> rfl
theorem EN {p:GPermitPlan} {A:AO} {s:Str}:stA (iJ p A) s=stA A s∨((stA (iJ p A) s=6∨stA (iJ p A) s=3)∧stA A s≤3):=by
 unfold iJ
 rcases Kw (p:=p) (A:=Eo p A) (s:=s) with ⟨h1,_⟩ | ⟨h1,h2,_⟩
 ·rw [h1];rcases Rw (p:=p) (A:=A) (s:=s) with h | h
  ·exact .inl h
  ·exact .inr ⟨.inl h.1,h.2.1⟩
 ·refine .inr ⟨.inr h1,?_⟩
  rcases Rw (p:=p) (A:=A) (s:=s) with h | h
  ·rw [← h,h2];decide
  ·exact h.2.1
theorem MP {p:GPermitPlan} {A:AO} {s:Str}:((iJ p A).es s).Be=(A.es s).Be:=ZO.trans ZM
theorem WA.settle {p:GPermitPlan} {d:List GEvent} {A:AO} (h:WA p d A):WA p d (iJ p A) :=
 h.le (fun s=>(EN (p:=p) (A:=A) (s:=s)).imp id fun ⟨h1,_⟩=>by rcases h1 with h1 | h1 <;> rw [h1] <;> decide) (fun s=>MP) ⟨Int.le_refl _,h.tm.2⟩ h.pp (fun s t e=>.inl e) h.pl
theorem PV {p:GPermitPlan} (hp:IU p) {A:AO} {x:aA} (hx:x ∈ p.ax) (hk:x.Kind=5):yS p A x=false:=by
 have h1:Ej p x=[]:=by unfold Ej Ep;rw [hk];rfl
 have h2:x.Locks=[]:=by
  cases hl:x.Locks with
  | nil=>rfl
  | cons l r=>exact absurd hk (hp.lk x hx l (by rw [hl];exact List.mem_cons_self)).2.2
 unfold yS Fp Il
 rw [h1,h2];rfl
theorem X0 {A:AO} {x:aA}:(Il A x).isEmpty=true↔∀ l ∈ x.Locks,stA A l=2:=by
 unfold Il
 rw [List.isEmpty_iff,List.filter_eq_nil_iff]
 constructor
 ·intro h l hl;have:=h l hl;simpa using this
 ·intro h l hl;rw [h l hl];decide
theorem Es {p:GPermitPlan} (hp:IU p) {A:AO} {x:aA} (hx:x ∈ p.ax) (h2:stA (iJ p A) x.Name=2):yS p (iJ p A) x=false:=by
 unfold iJ at h2 ⊢
 have hh:mg p x.Name=true:=Ce.2 ⟨x,hx,rfl⟩
 rcases Kw (p:=p) (A:=Eo p A) (s:=x.Name) with ⟨h,hn⟩ | ⟨h,_⟩
 ·rw [h] at h2
  have hb:yS p (Eo p A) x=false:=by
   rw [hp.Em hx] at hn
   cases hb:yS p (Eo p A) x with
   | false=>rfl
   | true=>exact absurd ⟨hh,h2,hb⟩ hn
  unfold yS at hb ⊢
  rw [Bool.or_eq_false_iff] at hb ⊢
  refine ⟨hb.1,?_⟩
  have hb2:=hb.2
  rw [Bool.not_eq_false',X0] at hb2 ⊢
  intro l hl
  obtain ⟨h5,h6,_⟩:=hp.lk x hx l hl
  rcases Kw (p:=p) (A:=Eo p A) (s:=l) with ⟨h7,_⟩ | ⟨_,_,h7⟩
  ·rw [h7];exact hb2 l hl
  ·rw [PV hp (yT h5).1 h6] at h7;cases h7
 ·rw [h] at h2;cases h2
theorem Us {p:GPermitPlan} {A:AO} {s:Str} (hs:mg p s=true) (h:stA (iJ p A) s≤3):A.now<((iJ p A).es s).Be:=by
 rw [MP]
 unfold iJ at h
 refine ZN hs ?_
 rcases Kw (p:=p) (A:=Eo p A) (s:=s) with ⟨h1,_⟩ | ⟨h1,h2,_⟩
 ·rw [h1] at h;exact h
 ·rw [h2];decide
theorem Dt {p:GPermitPlan} (hp:IU p) {d:List GEvent} {A:AO} (h:WA p d A):Lp p { iJ p A with done:=d } :=
 ⟨⟨h.settle.st,h.settle.fr,h.settle.ex,h.settle.tm,h.settle.to,h.settle.pp,h.settle.tt,h.settle.pl⟩,fun x hx e=>Es hp (A:=A) hx e,fun x hx e=>Us (A:=A) (Ce.2 ⟨x,hx,rfl⟩) e⟩
theorem X3 {p:GPermitPlan} {A:AO} {x:aA} (h:Lr p A x=[]):x.From≤A.now∧∀ y ∈ p.ax,stA A y.Name=2→tX p y x=false:=by
 unfold Lr at h
 obtain ⟨h1,h2⟩:=List.append_eq_nil_iff.1 h
 constructor
 ·by_cases hf : A.now < x.From
  ·rw [dT hf] at h1;cases h1
  ·omega
 ·intro y hy e
  rw [List.filter_eq_nil_iff] at h2
  have:=h2 (⟨20,lI p A (fun y=>tX p y x)⟩:bT) (by simp)
  have h3:lI p A (fun y=>tX p y x)=[]:=by simpa using this
  unfold lI at h3
  rw [List.map_eq_nil_iff,List.filter_eq_nil_iff] at h3
  have:=h3 y hy
  rw [dT e] at this
  simpa using this
theorem SV {q:Str×Str} {n s:Str}:∀ {l:List (Str×Str)},q ∈ Io l n s→q=(n,s)∨q ∈ l
 | [],h=>by simpa [Io] using h
 | a :: r,h=>by
  unfold Io at h
  cases hd:decide (a.1<n) with
  | false=>rw [hd,lM] at h;simpa using h
  | true =>
   rw [hd,lN] at h
   rcases List.mem_cons.1 h with rfl | h
   ·exact .inr List.mem_cons_self
   ·exact (SV h).imp id fun h=>List.mem_cons_of_mem _ h
theorem SX {n s:Str}:∀ {l:List (Str×Str)},(Io l n s).length=l.length+1
 | []=>rfl
 | a :: r=>by
  unfold Io
  cases decide (a.1<n) with
  | true=>rw [lN,List.length_cons,SX,List.length_cons]
  | false=>rfl
theorem Ky {n s : Str} : ∀ {l : List (Str × Str)}, (l.any fun q => decide (q.1 = n)) = false → l.Pairwise (fun a b => a.1 < b.1) → (Io l n s).Pairwise (fun a b => a.1 < b.1)
  | [],_,_=>by simp [Io]
  | a :: r,hn,h=>by
    rw [List.any_cons,Bool.or_eq_false_iff,decide_eq_false_iff_not] at hn
    rw [List.pairwise_cons] at h
    unfold Io
    cases hd:decide (a.1<n) with
    | false =>
      rw [lM,List.pairwise_cons]
      rw [decide_eq_false_iff_not] at hd
      have hlt:n<a.1:=by
        rcases List.le_iff_lt_or_eq.1 (show n≤a.1 from hd) with h1 | h1
        · exact h1
        · exact absurd h1.symm hn.1
      refine ⟨fun q hq=>?_,List.pairwise_cons.2 h⟩
      rcases List.mem_cons.1 hq with rfl | hq
      · exact hlt
      · exact List.lt_trans hlt (h.1 q hq)
    | true =>
      rw [decide_eq_true_eq] at hd
      rw [lN,List.pairwise_cons]
      refine ⟨fun q hq=>?_,Ky hn.2 h.2⟩
      rcases SV hq with rfl | hq
      · exact hd
      · exact h.1 q hq
def StepA (p:GPermitPlan) (A:AO) (x:GEvent) (r:AO×List Str×Int):Prop :=
 (r.2.2≠0→r.1=A)∧(∀ d,WA p d A→WA p (d ++ [x]) r.1)∧r.1.now=A.now∧r.1.done=A.done ∧
 (∀ s,stA A s ≥ 4→stA r.1 s=stA A s)∧(∀ s,stA r.1 s=2→stA A s≠2→(x.Op=2∨x.Op=4)∧x.Name=s∧r.2.2=0)
theorem oJ {p:GPermitPlan} {A:AO} {x:GEvent} {e:Int} {l:List Str}:StepA p A x (wO A e l) :=
 ⟨fun _=>rfl,fun d h=>h.snoc,rfl,rfl,fun _ _=>rfl,fun s h1 h2=>absurd h1 h2⟩
theorem step_up {p:GPermitPlan} {A:AO} {x:GEvent} {n:Str} {e:af} (h4:stA A n≤3) (he:0≤e.state∧e.state≤6) (h2:∀ d,WA p d A→e.state=2→∀ x ∈ p.ax,x.Name=n→x.From≤A.now∧∀ y ∈ p.ax,stA A y.Name=2→tX p x y=false) (ht:e.Be=(A.es n).Be∨(x.Op=11∧x.Name=n∧x.To=e.Be)) (ho:e.state=2→stA A n≠2→(x.Op=2∨x.Op=4)∧x.Name=n):StepA p A x (DV (Xg A n e)):=by
 refine ⟨fun h=>absurd rfl h,fun d h=>?_,rfl,rfl,fun s hs=>?_,fun s h1 hne=>?_⟩
 ·exact h.snoc.up he (fun e2=>h2 d h e2) (ht.imp id fun ⟨a,b,c⟩=>⟨x,List.mem_append_right _ (List.mem_singleton_self _),a,b,c⟩)
 ·show stA (Xg A n e) s=_
  rw [MO]
  split
  ·rename_i h;subst h;omega
  ·rfl
 ·have h1':stA (Xg A n e) s=2:=h1
  rw [MO] at h1'
  split at h1'
  ·rename_i h;subst h;exact ⟨(ho h1' hne).1,(ho h1' hne).2,rfl⟩
  ·exact absurd h1' hne
theorem Oa {p:GPermitPlan} {A:AO} {x:GEvent} {n:Str} {k:Int} (h4:stA A n≤3) (hk:0≤k∧k≤6) (h2:k≠2):StepA p A x (DV (beA A n k)) :=
 step_up h4 hk (fun d _ e=>absurd e h2) (.inl rfl) (fun e=>absurd e h2)
theorem EO {p:GPermitPlan} {A A':AO} {x:GEvent} (he:A'.es=A.es) (hn:A'.now=A.now) (hd:A'.done=A.done) (hp:A.pp.Pairwise (fun a b=>a.1<b.1)→A'.pp.Pairwise (fun a b=>a.1<b.1)) (hq:0≤A.now∧A.now≤1000000→∀ s t,A'.ts s=some t→A.ts s=some t∨(0≤t.at_∧t.at_≤1000000)) (hl:A'.pp.length≤A.pp.length+1):StepA p A x (DV A'):=by
 have hs:∀ s,stA A' s=stA A s:=fun s=>by unfold stA;rw [he]
 refine ⟨fun h=>absurd rfl h,fun d h=>?_,hn,hd,fun s _=>hs s,fun s h1 h2=>absurd ((hs s).symm.trans h1) h2⟩
 exact h.snoc.le (fun s=>.inl (hs s)) (fun s=>by show (A'.es s).Be=_;rw [he]) ⟨by show A.now≤A'.now;omega,by have:=h.tm;show A'.now≤_;omega⟩ (hp h.pp) (hq h.tm) (by have:=h.pl;rw [List.length_append];simp only [List.length_singleton];show A'.pp.length≤_;omega)
theorem Kz {p:GPermitPlan} (hp:IU p) {A:AO} {x:GEvent} (ho:x.Op=2∨x.Op=4) (h4:stA A x.Name≤3) (hh:mg p x.Name=true):StepA p A x (Et p A x):=by
 unfold Et
 cases kz x.Person with
 | false=>exact oJ
 | true =>
  cases decide (x.Person=(A.es x.Name).Gt) with
  | true=>exact oJ
  | false =>
   simp only [Bool.not_true,lM]
   cases hw:Lr p A (qH p x.Name) with
   | cons r l=>exact oJ
   | nil =>
    refine step_up h4 (by simp) (fun d hd _ y hy hn=>?_) (.inl rfl) (fun _ _=>⟨ho,rfl⟩)
    have hy2:qH p x.Name=y:=by rw [← hn];exact hp.Em hy
    rw [hy2] at hw
    obtain ⟨h1,h2⟩:=X3 hw
    exact ⟨h1,fun z hz e=>by rw [F8];exact h2 z hz e⟩
theorem KA {p:GPermitPlan} (hp:IU p) {A:AO} {x:GEvent} (h0:0≤x.Op) (h12:x.Op<12):StepA p A x (Ls p A x):=by
  have hop:x.Op=0∨x.Op=1∨x.Op=2∨x.Op=3∨x.Op=4∨x.Op=5∨x.Op=6∨x.Op=7∨x.Op=8∨x.Op=9∨x.Op=10∨x.Op=11:=by omega
  have acts:∀ {l:List Int} {R:AO×List Str×Int},(∀ k ∈ l,k≤3)→(mg p x.Name=true→stA A x.Name ∈ l→stA A x.Name≤3→StepA p A x R)→StepA p A x (bif !mg p x.Name then wO A 6 [] else bif !l.contains (stA A x.Name) then wO A 18 [] else R):=by
    intro l R hl hR
    cases hh:mg p x.Name with
    | false=>exact oJ
    | true =>
      cases hc:l.contains (stA A x.Name) with
      | false=>exact oJ
      | true =>
        have hm:stA A x.Name ∈ l:=by simpa using hc
        exact hR hh hm (hl _ hm)
  unfold Ls Du PW
  rcases hop with h | h | h | h | h | h | h | h | h | h | h | h <;> simp only [h,if_true,if_false,Int.reduceEq]
  · exact EO rfl rfl rfl id (fun _ s t e=>.inl e) (Nat.le_succ _)
  · refine acts (by decide) fun hh hm h4 => ?_
    unfold GY
    cases kz x.Person with
    | false=>exact oJ
    | true=>exact step_up h4 (by simp) (fun _ _ e=>by cases e) (.inl rfl) (fun e=>by cases e)
  · exact acts (by decide) fun hh hm h4=>Kz hp (.inl h) h4 hh
  · exact acts (by decide) fun hh hm h4=>Oa h4 (by decide) (by decide)
  · exact acts (by decide) fun hh hm h4=>Kz hp (.inr h) h4 hh
  · refine acts (by decide) fun hh hm h4 => ?_
    unfold EP
    simp only []
    cases (decide ((qH p x.Name).Kind=5) && !(lI p A (fun z=>IW z.Locks (qH p x.Name).Name)).isEmpty) with
    | true=>exact oJ
    | false =>
      rw [lM]
      cases (decide ((qH p x.Name).Kind=1)&&decide (stA A (qH p x.Name).Name=2)&&(yF p (qH p x.Name).Space).dW&&(lI p A (fun z=>decide (z.Kind=1)&&decide (z.Space=(qH p x.Name).Space) && !decide (z.Name=(qH p x.Name).Name))).isEmpty && !(Ai A (fun s=>decide (s=(qH p x.Name).Space))).isEmpty) with
      | true=>exact oJ
      | false=>exact Oa h4 (by decide) (by decide)
  · exact acts (by decide) fun hh hm h4=>Oa h4 (by decide) (by decide)
  · unfold X4
    cases zH p x.Space with
    | false=>exact oJ
    | true =>
      cases (decide (x.vS<0)||decide (1000<x.vS)||decide (x.OH<0)||decide (1000<x.OH)) with
      | true=>exact oJ
      | false =>
        refine EO rfl rfl rfl id (fun hn s t e=>?_) (Nat.le_succ _)
        simp only [] at e
        cases hd:decide (s=x.Space) with
        | true=>rw [hd,lN] at e;cases e;exact .inr hn
        | false=>rw [hd,lM] at e;exact .inl e
  · unfold Ob
    cases kz x.Person with
    | false=>exact oJ
    | true =>
      cases zH p x.Space with
      | false=>exact oJ
      | true =>
        cases hi:Dv A x.Person with
        | true=>exact oJ
        | false =>
          simp only [Bool.not_true,lM]
          cases ((yF p x.Space).dW && !zI p A x.Space) with
          | true=>exact oJ
          | false =>
            rw [lM]
            cases (!(lI p A (fun y=>decide (y.Kind=3)&&decide (oQ p y.Space x.Space≤1))).isEmpty) with
            | true=>exact oJ
            | false=>exact EO rfl rfl rfl (fun hpp=>Ky hi hpp) (fun _ s t e=>.inl e) (Nat.le_of_eq SX)
  · unfold Oc
    cases kz x.Person with
    | false=>exact oJ
    | true =>
      cases Dv A x.Person with
      | false=>exact oJ
      | true=>exact EO rfl rfl rfl (fun hpp=>hpp.filter _) (fun _ s t e=>.inl e) (Nat.le_succ_of_le (List.length_filter_le _ _))
  · unfold Oe
    cases zH p x.Space with
    | false=>exact oJ
    | true =>
      simp only [Bool.not_true,lM]
      have hs:∀ s,stA { A with es:=fun s=>bif mg p s&&decide (stA A s=2)&&(!decide ((qH p s).Kind=5)&&decide (oQ p (qH p s).Space x.Space≤1)) then { A.es s with state:=3 } else A.es s } s=stA A s∨(stA { A with es:=fun s=>bif mg p s&&decide (stA A s=2)&&(!decide ((qH p s).Kind=5)&&decide (oQ p (qH p s).Space x.Space≤1)) then { A.es s with state:=3 } else A.es s } s=3∧stA A s=2):=by
        intro s
        unfold stA
        simp only []
        cases mg p s with
        | false=>exact .inl rfl
        | true =>
          by_cases h2:(A.es s).state=2
          · rw [dT h2]
            cases (!decide ((qH p s).Kind=5)&&decide (oQ p (qH p s).Space x.Space≤1)) with
            | false=>exact .inl rfl
            | true=>exact .inr ⟨rfl,h2⟩
          · rw [dF h2];exact .inl rfl
      refine ⟨fun h=>absurd rfl h,fun d hd=>?_,rfl,rfl,fun s h4=>?_,fun s h1 h2=>?_⟩
      · refine hd.snoc.le (fun s => (hs s).imp id fun h => by show _ ∧ _ ∧ _; rw [show stA (DV _).1 s = 3 from h.1]; decide) (fun s => ?_) ⟨Int.le_refl _, hd.tm.2⟩ hd.pp (fun s t e => .inl e) hd.snoc.pl
        show (bif _ then ({ A.es s with state:=3 }:af) else A.es s).Be=_
        cases (mg p s&&decide (stA A s=2)&&(!decide ((qH p s).Kind=5)&&decide (oQ p (qH p s).Space x.Space≤1))) <;> rfl
      · rcases hs s with h | h
        · exact h
        · omega
      · rcases hs s with h | h
        · exact absurd (h.symm.trans h1) h2
        · exact absurd h.2 h2
  · refine acts (by decide) fun hh hm h4 => ?_
    unfold Jk
    cases kz x.Person with
    | false=>exact oJ
    | true =>
      cases (decide (x.To≤(A.es x.Name).Be)||decide (1000000<x.To)) with
      | true=>exact oJ
      | false =>
        have hm':stA A x.Name=1∨stA A x.Name=2∨stA A x.Name=3:=by simpa using hm
        refine step_up h4 ⟨?_,?_⟩ (fun d hd e y hy hn=>?_) (.inr ⟨h,rfl,rfl⟩) (fun e hne=>absurd e hne)
        · show 0≤stA A x.Name;omega
        · show stA A x.Name≤6;omega
        · have e':stA A x.Name=2:=e
          rw [← hn] at e'
          exact ⟨hd.fr y hy e',fun z hz e2=>hd.ex y hy z hz e' e2⟩
theorem ZP {p:GPermitPlan} (hp:IU p) {A:AO} {x:GEvent} (h:Lp p A):Lp p (Qj p A x).1∧A.now≤(Qj p A x).1.now∧(∀ s,stA A s ≥ 4→stA (Qj p A x).1 s=stA A s)∧(∀ s,stA (Qj p A x).1 s=2→stA A s≠2→(x.Op=2∨x.Op=4)∧x.Name=s∧(Qj p A x).2.2=0):=by
  unfold Qj
  by_cases hr:x.Op<0∨12≤x.Op∨x.At<0∨1000000<x.At
  · have hr' : (decide (x.Op < 0) || decide (12 ≤ x.Op) || decide (x.At < 0) || decide (1000000 < x.At)) = true := by simpa [or_assoc] using hr
    rw [hr']
    exact ⟨h,Int.le_refl _,fun _ _=>rfl,fun s h1 h2=>absurd h1 h2⟩
  · have hr' : (decide (x.Op < 0) || decide (12 ≤ x.Op) || decide (x.At < 0) || decide (1000000 < x.At)) = false := by simp; omega
    rw [hr',lM]
    by_cases ho:x.At<A.now
    · rw [dT ho];exact ⟨h,Int.le_refl _,fun _ _=>rfl,fun s h1 h2=>absurd h1 h2⟩
    rw [dF ho,lM]
    have hw:WA p A.done { A with now:=x.At }:=h.w.le (fun s=>.inl rfl) (fun _=>rfl) ⟨by show A.now≤x.At;omega,by show x.At≤1000000;omega⟩ h.w.pp (fun s t e=>.inl e) h.w.pl
    have hi:=Dt hp hw
    have hset:∀ s,stA (iJ p { A with now:=x.At }) s=stA A s∨((stA (iJ p { A with now:=x.At }) s=6∨stA (iJ p { A with now:=x.At }) s=3)∧stA A s≤3):=fun s=>EN (p:=p) (A:={ A with now:=x.At }) (s:=s)
    obtain ⟨s1,s2,s3,s4,s5,s6⟩:=KA hp (A:=iJ p { A with now:=x.At }) (x:=x) (by omega) (by omega)
    generalize hR:Ls p (iJ p { A with now:=x.At }) x=R at s1 s2 s3 s4 s5 s6
    simp only []
    by_cases h0:R.2.2=0
    · rw [dT h0,lN]
      have hw2:=s2 _ hi.w
      refine ⟨Dt hp (d:=A.done ++ [x]) hw2,?_,fun s hs=>?_,fun s h1 h2=>?_⟩
      · show A.now≤R.1.now
        rw [s3];show A.now≤x.At;omega
      · show stA (iJ p R.1) s=stA A s
        have e1:stA (iJ p { A with now:=x.At }) s=stA A s:=by
          rcases hset s with e | ⟨_,e⟩
          · exact e
          · omega
        have e2:=s5 s (by omega)
        rcases EN (p:=p) (A:=R.1) (s:=s) with e | ⟨_,e⟩ <;> omega
      · have h1':stA (iJ p R.1) s=2:=h1
        have e2:stA R.1 s=2:=by
          rcases EN (p:=p) (A:=R.1) (s:=s) with e | ⟨e,_⟩ <;> omega
        have e3:stA (iJ p { A with now:=x.At }) s≠2:=by
          rcases hset s with e | ⟨e,_⟩ <;> omega
        obtain ⟨a,b,c⟩:=s6 s e2 e3
        exact ⟨a,b,rfl⟩
    · rw [dF h0,lM]
      have hB:=s1 h0
      rw [hB]
      refine ⟨hi,?_,fun s hs=>?_,fun s h1 h2=>?_⟩
      · show A.now≤x.At;omega
      · rcases hset s with e | ⟨_,e⟩
        · exact e
        · omega
      · exfalso
        rcases hset s with e | ⟨e,_⟩ <;> omega
theorem X5 {p:GPermitPlan} (hp:IU p):Lp p (XV p):=by
 refine Dt hp (d:=[]) (A:=⟨0,fun s=>bif mg p s then ⟨0,[],(qH p s).To⟩ else ⟨0,[],0⟩,fun _=>none,[],[]⟩) ⟨fun s=>?_,fun x hx e=>?_,fun x hx y hy e=>?_,(by simp),fun x hx=>?_,List.Pairwise.nil,(fun s t e=>by cases e),Nat.le_refl _⟩
 ·unfold stA;simp only [];cases mg p s <;> simp
 ·exfalso;unfold stA at e;simp only [] at e;cases hh:mg p x.Name <;> rw [hh] at e <;> cases e
 ·exfalso;unfold stA at e;simp only [] at e;cases hh:mg p x.Name <;> rw [hh] at e <;> cases e
 ·refine .inl ?_
  simp only []
  rw [Ce.2 ⟨x,hx,rfl⟩,lN,hp.Em hx]
end Go.KB
namespace Go.KB
set_option linter.unusedVariables false
theorem Ei {S O:Type} {n N:Nat} {f:S→Option (S ⊕ O)} (I:Nat→S→Prop) (Q:O→Prop) {s0:S} (h0:I 0 s0) (h:∀ i s,i<n→I i s→∃ s',f s=some (.inl s')∧I (i+1) s') (he:∀ s,I n s→∃ o,f s=some (.inr o)∧Q o) (hN:n<N):∃ o,bZ f N s0=some o∧Q o:=by
 have key:∀ k i s,i+k=n→I i s→∀ M,k<M→∃ o,bZ f M s=some o∧Q o:=by
  intro k
  induction k with
  | zero =>
   intro i s hi hs M hM
   obtain ⟨M,rfl⟩:∃ m,M=m+1:=⟨M - 1,by omega⟩
   have:i=n:=by omega
   subst this
   obtain ⟨o,h1,h2⟩:=he s hs
   exact ⟨o,by simp only [bZ,h1],h2⟩
  | succ k ih =>
   intro i s hi hs M hM
   obtain ⟨M,rfl⟩:∃ m,M=m+1:=⟨M - 1,by omega⟩
   obtain ⟨s',h1,h2⟩:=h i s (by omega) hs
   simp only [bZ,h1]
   exact ih (i+1) s' (by omega) h2 M (by omega)
 exact key n 0 s0 (by omega) h0 N (by omega)
theorem EQ {α β:Type} [DecidableEq α] (x k:α) (y:β):∀ m:List (α×β),mr (pI m x y) k=(decide (k=x)||mr m k)
 | []=>by simp [mr,pI]
 | q :: r=>by
  unfold pI
  by_cases h:x=q.1
  ·rw [dT h,lN];unfold mr;rw [← h];cases decide (k=x) <;> simp
  ·rw [dF h,lM];unfold mr;rw [EQ x k y r]
   cases decide (k=q.1) <;> cases decide (k=x) <;> rfl
structure KC (p:GPermitPlan) (es:Str→af) (st:List (Str×af)):Prop where
 get:∀ s,mg p s=true→iC (⟨0,[],0⟩:af) st s=es s
 has:∀ s,mr st s=mg p s
theorem KC.set {p:GPermitPlan} {es:Str→af} {st:List (Str×af)} (h:KC p es st) {n:Str} (hn:mg p n=true) (e:af):KC p (fun s=>bif decide (s=n) then e else es s) (pI st n e):=by
 refine ⟨fun s hs=>?_,fun s=>?_⟩
 ·rw [Cf]
  by_cases he:s=n
  ·rw [if_pos he,dT he];rfl
  ·rw [if_neg he,dF he];exact h.get s hs
 ·rw [EQ,h.has]
  by_cases he:s=n
  ·rw [dT he,he,hn];rfl
  ·rw [dF he];rfl
theorem KC.congr {p:GPermitPlan} {es es':Str→af} {st:List (Str×af)} (h:KC p es st) (he:∀ s,mg p s=true→es s=es' s):KC p es' st:=⟨fun s hs=>by rw [h.get s hs,he s hs],h.has⟩
structure RelB (p:GPermitPlan) (A:AO) (g:ah) (nP:List (Str×aj)):Prop where
 plan:g.plan=p
 now:g.now=A.now
 KD:∀ s,mr nP s=(A.ts s).isSome
 KF:∀ s t,A.ts s=some t→iC (⟨0,0,0⟩:aj) nP s=t
structure RelA (p:GPermitPlan) (A:AO) (g:ah) (st:List (Str×af)) (nP:List (Str×aj)) (pe:List (Str×Str)):Prop where
 b:RelB p A g nP
 st:KC p A.es st
 pe:pe.Perm A.pp
 done:g.done=A.done
structure KG (A:AO):Prop where
 tm:0≤A.now∧A.now≤1000000
 st:∀ s,0≤stA A s∧stA A s≤6
 tt:∀ s t,A.ts s=some t→0≤t.at_∧t.at_≤1000000
 pl:A.pp.length<1000000
theorem WA.bd {p:GPermitPlan} {d:List GEvent} {A:AO} (h:WA p d A) (hd:d.length<1000000):KG A:=⟨h.tm,h.st,h.tt,Nat.lt_of_le_of_lt h.pl hd⟩
section
variable {N:Nat} {p:GPermitPlan} {A:AO} {g:ah} {st:List (Str×af)} {nP:List (Str×aj)} {pe:List (Str×Str)} (hp:Fa p) (hN:1000000≤N) (h:RelB p A g nP) (b:KG A)
include hp hN h b
theorem X6 {s:Str}:pz N g st nP pe s=some (Ws p A s,Wu p A s):=by
 have hs:=hp.s
 unfold pz Ws Wu
 rw [h.plan,xg (by omega) hN,bS,h.KD s,h.now]
 show (bif !(yF p s).dW then _ else _)=_
 cases (yF p s).dW with
 | false=>rfl
 | true =>
  simp only [Bool.not_true,lM]
  cases ht:A.ts s with
  | none=>rfl
  | some t =>
   have h1:=b.tt s t ht
   have h2:=b.tm
   rw [h.KF s t ht,XW (by omega) (by omega)]
   simp only [Option.isSome_some,Bool.true_and,wE,wS]
theorem IX {x:aA} {s:Str}:kE N g st nP pe s x=some (MI p A x s):=by
 unfold kE MI
 rw [X6 hp hN h b,bS,rM]
 cases decide (x.Kind=0) <;> rfl
theorem KH {x:aA}:kX N g st nP pe x=some (Fp p A x):=by
 have hl:=Wv (x:=x) hp
 unfold kX
 rw [h.plan,Wx hp hN,bS]
 have hi:fC N g st nP pe (Ej p x) x=some (Ik (MI p A x) (Ej p x)):=by
  unfold fC
  refine uJ (fun i hi=>?_) ?_ (by omega)
  ·unfold dZ
   rw [bH,dT (by omega),lN,ig hi,bS,IX hp hN h b,bS,nY (by omega)]
  ·unfold dZ
   rw [bH,dF (by omega),lM]
 have hd:eP N g st nP pe (Ej p x) x=some (Fp p A x):=by
  unfold eP
  rw [hi,bS]
  refine del_eq (g:=MI p A x) (fun xs i j hj hij hj2 hm=>?_) (fun xs i=>?_) (by omega) hN
  ·unfold dY
   simp only []
   rw [bH,dT (by omega),lN,ig hj,bS,IX hp hN h b,bS,nY (by omega),nY (by omega),ig (by omega),bS,Int.toNat_natCast]
  ·unfold dY
   simp only []
   rw [bH,dF (by omega),lM]
 rw [hd];rfl
end
theorem F9 {N:Nat} {p:GPermitPlan} {A:AO} {g:ah} {st:List (Str×af)} {nP:List (Str×aj)} {pe:List (Str×Str)} (hN:1000000≤N) (hst:KC p A.es st) {n:Str} {l:List Int} (hn:mg p n=true) (hl:l.length<100):dQ N g st nP pe n l=some (l.contains (stA A n)):=by
 unfold dQ
 rw [GX (by omega) hN,bS,hst.get n hn];rfl
theorem IY {N:Nat} {p:GPermitPlan} {A:AO} {g:ah} {st:List (Str×af)} {nP:List (Str×aj)} {pe:List (Str×Str)} (hp:Fa p) (hN:1000000≤N) (hst:KC p A.es st) {x:aA} (hx:x.Locks.length<1000) (hlk:∀ l ∈ x.Locks,mg p l=true):jL N g st nP pe x=some (Il A x):=by
 have hlim:lim ≥ 1000000:=by decide
 unfold jL
 have hc:fA N x.Locks=some x.Locks:=by
  unfold fA
  rw [DU (by simp only [List.length_nil];omega)];rfl
 rw [hc,bS]
 have h1:∀ s,jq N g st nP pe s=some (decide (stA A s=2))∨¬ mg p s=true:=by
  intro s
  by_cases hs:mg p s=true
  ·left
   unfold jq
   rw [F9 hN hst hs (by decide),bS]
   congr 1
   rw [Bool.eq_iff_iff];simp
  ·exact .inr hs
 have h2:∀ s ∈ x.Locks,jq N g st nP pe s=some (decide (stA A s=2)):=fun s hs=>(h1 s).elim id fun hn=>absurd (hlk s hs) hn
 have hi:eH N g st nP pe x.Locks=some (Ik (fun s=>decide (stA A s=2)) x.Locks):=by
  unfold eH
  refine uJ (fun i hi=>?_) ?_ (by omega)
  ·unfold dX
   rw [bH,dT (by omega),lN,ig hi,bS,h2 _ (List.getElem_mem hi),bS,nY (by omega)]
  ·unfold dX
   rw [bH,dF (by omega),lM]
 unfold gy
 rw [hi,bS,del_eq (g:=fun s=>decide (stA A s=2)) (f:=dB N g st nP pe) (fun xs i j hj hij hj2 hm=>?_) (fun xs i=>?_) (by omega) hN]
 ·rfl
 ·unfold dB
  simp only []
  rw [bH,dT (by omega),lN,ig hj,bS,h2 _ hm,bS,nY (by omega),nY (by omega),ig (by omega),bS,Int.toNat_natCast]
 ·unfold dB
  simp only []
  rw [bH,dF (by omega),lM]
def Gf (p:GPermitPlan) (i:Nat) (s:Str):Bool:=(p.ax.take i).any (Lu s)
theorem Jl {p:GPermitPlan} {s:Str}:Gf p p.ax.length s=mg p s:=by unfold Gf mg;rw [List.take_length]
theorem GZ {p:GPermitPlan} {i:Nat} (hi:i<p.ax.length) {s:Str}:Gf p (i+1) s=(Gf p i s||decide (p.ax[i].Name=s)):=by
 unfold Gf;rw [List.take_succ_eq_append_getElem hi,List.any_append];simp [Lu]
theorem SY {p:GPermitPlan} (ho:IU p) {i:Nat} (hi:i<p.ax.length):Gf p i p.ax[i].Name=false:=by
 unfold Gf
 rw [Bool.eq_false_iff]
 intro hx
 rw [List.any_eq_true] at hx
 obtain ⟨y,hy,hg⟩:=hx
 obtain ⟨j,hj,rfl⟩:=List.getElem_of_mem hy
 rw [List.length_take] at hj
 rw [List.getElem_take] at hg
 simp only [Lu,decide_eq_true_eq] at hg
 have:=ho.pd j i (by omega) hi (by rw [En (by omega),En hi,hg])
 omega
theorem ER {p:GPermitPlan} {i:Nat} (hi:i<p.ax.length):mg p p.ax[i].Name=true:=Ce.2 ⟨_,List.getElem_mem hi,rfl⟩
theorem Wy {N:Nat} {p:GPermitPlan} {A:AO} {g:ah} {st:List (Str×af)} {nP:List (Str×aj)} {pe:List (Str×Str)} (hp:Fa p) (ho:IU p) (hN:1000000≤N) (h:RelB p A g nP) (hst:KC p A.es st) (b:KG A):∃ st',bZ (kC N g nP pe) N (0,st)=some st'∧KC p (Eo p A).es st':=by
 have hm:=hp.m
 refine Ei (n:=p.ax.length) (fun i s=>s.1=(i:Int)∧KC p (fun s=>bif Gf p i s then Kv A.now (A.es s) else A.es s) s.2) _ ⟨rfl,hst.congr fun s _=>by unfold Gf;simp⟩ (fun i s hi hs=>?_) (fun s hs=>?_) (by omega)
 ·obtain ⟨s1,st'⟩:=s
  obtain ⟨rfl,hr⟩:=hs
  simp only [] at hr
  have hn:=ER hi
  have he:(bif Gf p i p.ax[i].Name then Kv A.now (A.es p.ax[i].Name) else A.es p.ax[i].Name)=A.es p.ax[i].Name:=by rw [SY ho hi];rfl
  have hg:=hr.get _ hn
  rw [he] at hg
  have hst:=b.st p.ax[i].Name
  unfold stA at hst
  have hc:([0,1,2,3]:List Int).contains (A.es p.ax[i].Name).state=decide ((A.es p.ax[i].Name).state≤3):=by
   rw [Bool.eq_iff_iff];simp;omega
  have hi':dQ N g st' nP pe p.ax[i].Name [0,1,2,3]=some (decide ((A.es p.ax[i].Name).state≤3)):=by
   unfold dQ
   rw [GX (by decide) hN,bS,hg,hc]
  have hnext:∀ (e:af),e=Kv A.now (A.es p.ax[i].Name)→∀ s,mg p s=true→(bif decide (s=p.ax[i].Name) then e else (bif Gf p i s then Kv A.now (A.es s) else A.es s))=(bif Gf p (i+1) s then Kv A.now (A.es s) else A.es s):=by
   intro e hee s _
   rw [GZ hi]
   by_cases hs:s=p.ax[i].Name
   ·subst hs;rw [dT rfl,Bool.or_true,lN,lN,hee]
   ·rw [dF hs,dF (fun x=>hs x.symm),Bool.or_false];rfl
  unfold kC
  simp only []
  rw [h.plan,bH,dT (by omega),lN,ig hi,bS,hi',bS,hg,wE,h.now,nY (by omega)]
  cases hx:(decide ((A.es p.ax[i].Name).state≤3)&&decide ((A.es p.ax[i].Name).Be≤A.now)) with
  | true =>
   refine ⟨_,rfl,rfl,?_⟩
   rw [hg]
   exact (hr.set hn _).congr (hnext _ (by unfold Kv;rw [hx];rfl))
  | false =>
   refine ⟨_,rfl,rfl,?_⟩
   refine hr.congr fun s hs=>?_
   rw [← hnext _ rfl s hs]
   by_cases he2:s=p.ax[i].Name
   ·subst he2;rw [dT rfl,lN,he];unfold Kv;rw [hx];rfl
   ·rw [dF he2];rfl
 ·obtain ⟨s1,st'⟩:=s
  obtain ⟨rfl,hr⟩:=hs
  unfold kC
  simp only []
  rw [h.plan,bH,dF (by omega),lM]
  exact ⟨_,rfl,hr.congr fun s _=>by rw [Jl];rfl⟩
theorem X7 {p:GPermitPlan} (ho:IU p) {B:AO} {l:Str} (hl:mg p l=true) (hk:(qH p l).Kind=5):(Cc p B).es l=B.es l:=by
 show (bif mg p l&&decide (stA B l=2)&&yS p B (qH p l) then ({ B.es l with state:=3 }:af) else B.es l)=_
 rw [PV ho (yT hl).1 hk,Bool.and_false];rfl
theorem gt0 {α:Type} {l:List α}:aN .gtr (List.length l:Int) 0 = !l.isEmpty:=by
 rw [qo]
 cases l with
 | nil=>rfl
 | cons x r=>simp
theorem PX {N:Nat} {p:GPermitPlan} {B:AO} {g:ah} {st:List (Str×af)} {nP:List (Str×aj)} {pe:List (Str×Str)} (hp:Fa p) (ho:IU p) (hN:1000000≤N) (h:RelB p B g nP) (hst:KC p B.es st) (b:KG B):∃ o:Bool×List (Str×af),bZ (jD N g nP pe) N (false,0,st)=some o∧KC p (Cc p B).es o.2∧o.1=p.ax.any (fun x=>decide (stA B x.Name=2)&&yS p B x):=by
 have hm:=hp.m
 refine Ei (n:=p.ax.length) (fun i s=>s.2.1=(i:Int)∧KC p (fun s=>bif Gf p i s then (Cc p B).es s else B.es s) s.2.2∧s.1=(p.ax.take i).any (fun x=>decide (stA B x.Name=2)&&yS p B x)) _ ⟨rfl,hst.congr fun s _=>by unfold Gf;simp,by simp⟩ (fun i s hi hs=>?_) (fun s hs=>?_) (by omega)
 ·obtain ⟨fl,s1,st'⟩:=s
  obtain ⟨rfl,hr,rfl⟩:=hs
  simp only [] at hr
  have hx:=List.getElem_mem hi
  have hn:=ER hi
  have he:(bif Gf p i p.ax[i].Name then (Cc p B).es p.ax[i].Name else B.es p.ax[i].Name)=B.es p.ax[i].Name:=by rw [SY ho hi];rfl
  have hg:=hr.get _ hn
  rw [he] at hg
  have hi':dQ N g st' nP pe p.ax[i].Name [2]=some (decide (stA B p.ax[i].Name=2)):=by
   unfold dQ
   rw [GX (by decide) hN,bS,hg]
   congr 1
   unfold stA
   rw [Bool.eq_iff_iff];simp
  have hlk:jL N g st' nP pe p.ax[i]=some (Il B p.ax[i]):=by
   rw [IY (A:={ B with es:=fun s=>bif Gf p i s then (Cc p B).es s else B.es s }) hp hN hr (hp.l _ hx) (fun l hl=>(ho.lk _ hx l hl).1)]
   congr 1
   unfold Il
   refine List.filter_congr fun l hl=>?_
   have:=ho.lk _ hx l hl
   have e:stA { B with es:=fun s=>bif Gf p i s then (Cc p B).es s else B.es s } l=stA B l:=by
    show (bif Gf p i l then (Cc p B).es l else B.es l).state=_
    rw [X7 ho this.1 this.2.1]
    cases Gf p i l <;> rfl
   rw [e]
  have hnext:∀ (e:af),e=(Cc p B).es p.ax[i].Name→∀ s,mg p s=true→(bif decide (s=p.ax[i].Name) then e else (bif Gf p i s then (Cc p B).es s else B.es s))=(bif Gf p (i+1) s then (Cc p B).es s else B.es s):=by
   intro e hee s _
   rw [GZ hi]
   by_cases hs:s=p.ax[i].Name
   ·subst hs;rw [dT rfl,Bool.or_true,lN,lN,hee]
   ·rw [dF hs,dF (fun x=>hs x.symm),Bool.or_false];rfl
  have hsus:(Cc p B).es p.ax[i].Name=(bif decide (stA B p.ax[i].Name=2)&&yS p B p.ax[i] then ({ B.es p.ax[i].Name with state:=3 }:af) else B.es p.ax[i].Name):=by
   show (bif mg p p.ax[i].Name&&decide (stA B p.ax[i].Name=2)&&yS p B (qH p p.ax[i].Name) then ({ B.es p.ax[i].Name with state:=3 }:af) else B.es p.ax[i].Name)=_
   rw [hn,ho.Em hx,Bool.true_and]
  have hany:(p.ax.take (i+1)).any (fun x=>decide (stA B x.Name=2)&&yS p B x)=((p.ax.take i).any (fun x=>decide (stA B x.Name=2)&&yS p B x)||(decide (stA B p.ax[i].Name=2)&&yS p B p.ax[i])):=by
   rw [List.take_succ_eq_append_getElem hi,List.any_append];simp
  have hsame:(decide (stA B p.ax[i].Name=2)&&yS p B p.ax[i])=false→KC p (fun s=>bif Gf p (i+1) s then (Cc p B).es s else B.es s) st':=fun hb=>hr.congr fun s hs=>by
   rw [← hnext _ rfl s hs]
   by_cases he2:s=p.ax[i].Name
   ·subst he2;rw [dT rfl,lN,he,hsus,hb];rfl
   ·rw [dF he2];rfl
  have hset:(decide (stA B p.ax[i].Name=2)&&yS p B p.ax[i])=true→KC p (fun s=>bif Gf p (i+1) s then (Cc p B).es s else B.es s) (pI st' p.ax[i].Name ({ B.es p.ax[i].Name with state:=3 }:af)):=fun hb =>
   (hr.set hn _).congr (hnext _ (by rw [hsus,hb];rfl))
  unfold jD
  simp only []
  rw [h.plan,bH,dT (by omega),lN,ig hi,bS,hi',bS,nY (by omega),hany]
  by_cases h2:stA B p.ax[i].Name=2
  ·rw [dT h2] at hsame hset ⊢
   simp only [lN,Bool.true_and] at hsame hset ⊢
   rw [KH hp hN h b,bS,gt0]
   unfold yS at hsame hset ⊢
   cases hla:(Fp p B p.ax[i]).isEmpty with
   | false =>
    rw [hla] at hset
    simp only [Bool.not_false,Bool.true_or,Bool.or_true,Bool.not_true,lM,lN,bS] at hset ⊢
    refine ⟨_,rfl,rfl,?_,rfl⟩
    rw [hg];exact hset trivial
   | true =>
    rw [hla] at hset hsame
    simp only [Bool.not_false,Bool.false_or,Bool.not_true,lN,hlk,bS,gt0] at hset hsame ⊢
    cases hu:(Il B p.ax[i]).isEmpty with
    | false =>
     rw [hu] at hset
     refine ⟨_,rfl,rfl,?_,by simp⟩
     rw [hg];exact hset rfl
    | true =>
     rw [hu] at hsame
     exact ⟨_,rfl,rfl,hsame rfl,by simp⟩
  ·rw [dF h2] at hsame ⊢
   exact ⟨_,rfl,rfl,hsame rfl,by simp⟩
 ·obtain ⟨fl,s1,st'⟩:=s
  obtain ⟨rfl,hr,rfl⟩:=hs
  unfold jD
  simp only []
  rw [h.plan,bH,dF (by omega),lM]
  exact ⟨_,rfl,hr.congr fun s hs=>by rw [Jl,hs];rfl,by rw [List.take_length]⟩
theorem KG.exp {p:GPermitPlan} {A:AO} (b:KG A):KG (Eo p A):=⟨b.tm,fun s=>by
 rcases Rw (p:=p) (A:=A) (s:=s) with e | ⟨e,_⟩ <;> rw [e]
 ·exact b.st s
 ·decide,b.tt,b.pl⟩
theorem KG.sus {p:GPermitPlan} {A:AO} (b:KG A):KG (Cc p A):=⟨b.tm,fun s=>by
 rcases Kw (p:=p) (A:=A) (s:=s) with ⟨e,_⟩ | ⟨e,_⟩ <;> rw [e]
 ·exact b.st s
 ·decide,b.tt,b.pl⟩
theorem KG.settle {p:GPermitPlan} {A:AO} (b:KG A):KG (iJ p A):=b.exp.sus
theorem Ip {N:Nat} {p:GPermitPlan} {A:AO} {g:ah} {st:List (Str×af)} {nP:List (Str×aj)} {pe:List (Str×Str)} (hp:Fa p) (ho:IU p) (hN:1000000≤N) (h:RelB p A g nP) (hst:KC p A.es st) (b:KG A):∃ st',jH N g st nP pe=some st'∧KC p (iJ p A).es st':=by
 unfold jH
 obtain ⟨s1,h1,r1⟩:=Wy (pe:=pe) hp ho hN h hst b
 rw [h1,bS]
 have hE:RelB p (Eo p A) g nP:=⟨h.plan,h.now,h.KD,h.KF⟩
 have hS:RelB p (iJ p A) g nP:=⟨h.plan,h.now,h.KD,h.KF⟩
 obtain ⟨⟨f2,s2⟩,h2,r2,e2⟩:=PX (pe:=pe) hp ho hN hE r1 b.exp
 obtain ⟨⟨f3,s3⟩,h3,r3,e3⟩:=PX (pe:=pe) hp ho hN hS r2 b.settle
 have e3':f3=false:=by
  rw [show f3=_ from e3,Bool.eq_false_iff]
  intro hx
  rw [List.any_eq_true] at hx
  obtain ⟨x,hx,hb⟩:=hx
  rw [Bool.and_eq_true,decide_eq_true_eq] at hb
  rw [Es ho hx hb.1] at hb
  cases hb.2
 subst e3'
 obtain ⟨M,rfl⟩:∃ M,N=M+3:=⟨N - 3,by omega⟩
 have step:∀ (st:List (Str×af)) (o:Bool×List (Str×af)),bZ (jD (M+3) g nP pe) (M+3) (false,0,st)=some o→kD (M+3) g nP pe (true,st)=some (.inl o):=by
  intro st o ho
  unfold kD
  rw [lN,ho];rfl
 have stop:∀ st:List (Str×af),kD (M+3) g nP pe (false,st)=some (.inr st):=fun st=>rfl
 cases f2 with
 | false =>
  refine ⟨s2,?_,r2⟩
  rw [show M+3=(M+2)+1 from rfl]
  simp only [bZ,step _ _ h2,stop];rfl
 | true =>
  refine ⟨s3,?_,r3.congr fun s hs=>?_⟩
  ·simp only [bZ,step _ _ h2,step _ _ h3,stop];rfl
  ·show (bif mg p s&&decide (stA (iJ p A) s=2)&&yS p (iJ p A) (qH p s) then ({ (iJ p A).es s with state:=3 }:af) else (iJ p A).es s)=_
   by_cases h2:stA (iJ p A) s=2
   ·obtain ⟨hm,hnm⟩:=yT hs
    rw [Es ho hm (by rw [hnm];exact h2),Bool.and_false];rfl
   ·rw [dF h2,Bool.and_false,Bool.false_and];rfl
end Go.KB
namespace Go.KB
set_option linter.unusedVariables false
theorem Ut {N:Nat} {l:List bF} {f:bF→Option Bool} {g:bF→Bool} (hf:∀ y,f y=some (g y)) (hl:l.length<1000000) (hN:1000000≤N):gU N l f=some (Ik g l):=by
 unfold gU
 refine uJ (fun i hi=>?_) ?_ (by omega)
 ·unfold fU
  rw [bH,dT (by omega),lN,ig hi,bS,hf,bS,nY (by omega)]
 ·unfold fU
  rw [bH,dF (by omega),lM]
theorem N9 {α:Type} {g:α→Bool} {l:List α}:aN .geq (Ik g l) 0=l.any g:=by
 have:=Dw (g:=g) (l:=l)
 rw [wS]
 cases h2:l.any g with
 | true=>rw [h2] at this;simp at this;rw [dT (by omega)]
 | false=>rw [h2] at this;simp at this;rw [dF (by omega)]
theorem IV {N:Nat} {p:GPermitPlan} {x y:aA} (hp:Fa p) (hN:1000000≤N):qE N p x y=some (tX p x y):=by
 have hx:=hp.x
 unfold qE tX
 rw [qN,G5 hp hN]
 cases decide (x.Name=y.Name) with
 | true=>rfl
 | false =>
  rw [lM,lM,bS]
  unfold iR
  rw [Ut (g:=fun e=>exE e (oQ p x.Space y.Space) x.Kind y.Kind) (fun e=>by unfold qK exE;simp only [wE,rM]) (by omega) hN,bS,N9];rfl
theorem cloneS {N:Nat} {l:List bV} (h:l.length<1000):jM N l=some l:=by
 have hlim:lim ≥ 1000000:=by decide
 unfold jM;rw [DU (by simp only [List.length_nil];omega)];rfl
theorem ZQ {N:Nat} {l:List aA} (h:l.length<1000):jy N l=some l:=by
 have hlim:lim ≥ 1000000:=by decide
 unfold jy;rw [DU (by simp only [List.length_nil];omega)];rfl
theorem ZR {N:Nat} {l:List bF} (h:l.length<1000):iO N l=some l:=by
 have hlim:lim ≥ 1000000:=by decide
 unfold iO;rw [DU (by simp only [List.length_nil];omega)];rfl
theorem WB {N:Nat} {l:List Str} (h:l.length<1000):fA N l=some l:=by
 have hlim:lim ≥ 1000000:=by decide
 unfold fA;rw [DU (by simp only [List.length_nil];omega)];rfl
theorem PY {α:Type} {l:List α} {i:Nat} (h:i<l.length):l.set i l[i]=l:=List.set_getElem_self h
theorem Uu {N:Nat} {p:GPermitPlan} (hp:Fa p) (hN:1000000≤N):uZ N p=some p:=by
 have h1:=hp.s
 have h2:=hp.x
 have h3:=hp.m
 unfold uZ
 rw [cloneS h1,ZR h2,ZQ h3]
 simp only [bS]
 have e2:bZ (nV N p.bK) N (0,p.bK)=some p.bK:=Iq (f:=nV N p.bK) (n:=p.bK.length) (fun i=>((i:Int),p.bK)) p.bK (fun i hi=>by
  unfold nV
  simp only []
  rw [bH,dT (by omega),lN,ig hi,bS,WB (hp.n _ (List.getElem_mem hi)),bS,bS,nY (by omega),Int.toNat_natCast,PY hi]) (by
  unfold nV
  simp only []
  rw [bH,dF (by omega),lM]) (by omega)
 have e1:bZ (nX N p.ax) N (0,p.ax)=some p.ax:=Iq (f:=nX N p.ax) (n:=p.ax.length) (fun i=>((i:Int),p.ax)) p.ax (fun i hi=>by
  unfold nX
  simp only []
  rw [bH,dT (by omega),lN,ig hi,bS,WB (hp.l _ (List.getElem_mem hi)),bS,bS,nY (by omega),Int.toNat_natCast,PY hi]) (by
  unfold nX
  simp only []
  rw [bH,dF (by omega),lM]) (by omega)
 rw [e2,e1];rfl
def X8 (p:GPermitPlan):AO:=⟨0,fun s=>bif mg p s then ⟨0,[],(qH p s).To⟩ else ⟨0,[],0⟩,fun _=>none,[],[]⟩
theorem X9 (p:GPermitPlan):KG (X8 p):=⟨⟨by show (0:Int)≤0;omega,by show (0:Int)≤1000000;omega⟩,fun s=>by unfold stA X8;simp only [];cases mg p s <;> simp,(fun s t e=>by cases e),by show 0<1000000;omega⟩
theorem WC {N:Nat} {p:GPermitPlan} (hp:Fa p) (ho:IU p) (hN:1000000≤N):∃ st,bZ (ny N p) N (0,([]:List (Str×af)))=some st∧KC p (X8 p).es st:=by
 have hm:=hp.m
 have key:∃ st,bZ (ny N p) N (0,([]:List (Str×af)))=some st∧(∀ n,Gf p p.ax.length n=true→iC (⟨0,[],0⟩:af) st n=⟨0,[],(qH p n).To⟩)∧∀ n,mr st n=Gf p p.ax.length n:=by
  refine Ei (N:=N) (n:=p.ax.length) (f:=ny N p) (s0:=(0,([]:List (Str×af)))) (fun i s=>s.1=(i:Int)∧(∀ n,Gf p i n=true→iC (⟨0,[],0⟩:af) s.2 n=⟨0,[],(qH p n).To⟩)∧∀ n,mr s.2 n=Gf p i n) (fun st=>(∀ n,Gf p p.ax.length n=true→iC (⟨0,[],0⟩:af) st n=⟨0,[],(qH p n).To⟩)∧∀ n,mr st n=Gf p p.ax.length n) ⟨rfl,fun n h=>by unfold Gf at h;simp at h,fun n=>by unfold Gf;simp [mr]⟩ (fun i s hi hs=>?_) (fun s hs=>?_) (by omega)
  ·obtain ⟨s1,st⟩:=s
   obtain ⟨rfl,h1,h2⟩:=hs
   simp only [] at h1 h2
   refine ⟨_,by unfold ny;simp only [];rw [bH,dT (by omega),lN,ig hi,bS,nY (by omega)],rfl,fun n hn=>?_,fun n=>?_⟩
   ·simp only []
    rw [Cf]
    by_cases he:n=p.ax[i].Name
    ·rw [if_pos he,he,ho.Em (List.getElem_mem hi)]
    ·rw [if_neg he]
     rw [GZ hi,dF (fun x=>he x.symm),Bool.or_false] at hn
     exact h1 n hn
   ·simp only []
    rw [EQ,h2,GZ hi,Bool.or_comm]
    congr 1
    exact decide_eq_decide.2 ⟨Eq.symm,Eq.symm⟩
  ·obtain ⟨s1,st⟩:=s
   obtain ⟨rfl,h1,h2⟩:=hs
   refine ⟨st,?_,h1,h2⟩
   unfold ny
   simp only []
   rw [bH,dF (by omega),lM]
 obtain ⟨st,h1,h2,h3⟩:=key
 exact ⟨st,h1,fun s hs=>by rw [h2 s (by rw [Jl];exact hs)];show _=(bif mg p s then _ else _);rw [hs];rfl,fun s=>by rw [h3,Jl]⟩
theorem ZT {N:Nat} {p:GPermitPlan} (hp:Fa p) (ho:qm p=0) (hN:1000000≤N):∃ st,rC N p=some (some ((⟨p,0,[]⟩:ah),st,[],[]),0)∧RelA p (XV p) (⟨p,0,[]⟩:ah) st [] []:=by
 have hk:=okP ho
 unfold rC
 rw [GV hp hN,ho,bS,rJ,dT rfl,Bool.not_true,lM,Uu hp hN,bS]
 obtain ⟨s1,h1,r1⟩:=WC hp hk hN
 rw [h1,bS]
 have hb:RelB p (X8 p) (⟨p,0,[]⟩:ah) []:=⟨rfl,rfl,fun s=>rfl,fun s t e=>by cases e⟩
 obtain ⟨s2,h2,r2⟩:=Ip (pe:=([]:List (Str×Str))) hp hk hN hb r1 (X9 p)
 rw [h2,bS]
 exact ⟨s2,rfl,⟨rfl,rfl,fun s=>rfl,fun s t e=>by cases e⟩,r2,List.Perm.refl _,rfl⟩
end Go.KB
