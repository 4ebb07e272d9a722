/- Plain laws of chapter 7: what stays true in an office. Plain laws of chapter 7: the program's office settles. Plain laws of chapter 7: which permits exclude each other; the new office. No condition. -/
import Derived.Test.YtalkbgomndhkmaaGreatPZm
namespace Go.KB
set_option linter.unusedVariables false
theorem bifD {α:Type} {q:Prop} [Decidable q] {a b:α}:(bif decide q then a else b)=if q then a else b:=by
 by_cases h:q
 ·rw [dT h,if_pos h];rfl
 ·rw [dF h,if_neg h];rfl
structure WA (p:GPermitPlan) (d:List GEvent) (A:AO):Prop where
 st:∀ s,0≤stA A s∧stA A s≤6
 fr:∀ x ∈ p.aj,stA A x.Name=2→x.From≤A.now
 ex:∀ x ∈ p.aj,∀ y ∈ p.aj,stA A x.Name=2→stA A y.Name=2→yg p x y=false
 tm:0≤A.now∧A.now≤1000000
 to:∀ x ∈ p.aj,(A.es x.Name).yQ=x.To∨∃ v ∈ d,v.Op=11∧v.Name=x.Name∧v.To=(A.es x.Name).yQ
 pp:A.pp.Pairwise (fun a b=>a.1<b.1)
 tt:∀ s t,A.ts s=some t→0≤t.at_∧t.at_≤1000000
 pl:A.pp.length≤d.length
structure Sl (p:GPermitPlan) (A:AO):Prop where
 w:WA p A.done A
 un:∀ x ∈ p.aj,stA A x.Name=2→yh p A x=false
 li:∀ x ∈ p.aj,stA A x.Name≤3→A.now<(A.es x.Name).yQ
theorem WA.le {p:GPermitPlan} {d:List GEvent} {A A':AO} (h:WA p d A) (hs:∀ s,stA A' s=stA A s∨(0≤stA A' s∧stA A' s≤6∧stA A' s≠2)) (ht:∀ s,(A'.es s).yQ=(A.es s).yQ) (hn:A.now≤A'.now∧A'.now≤1000000) (hp:A'.pp.Pairwise (fun a b=>a.1<b.1)) (hq:∀ s t,A'.ts s=some t→A.ts s=some t∨(0≤t.at_∧t.at_≤1000000)) (hl:A'.pp.length≤d.length):WA p d A':=by
 have h2:∀ s,stA A' s=2→stA A s=2:=fun s e=>by
  rcases hs s with h1 | h1
  ·rw [← h1];exact e
  ·exact absurd e h1.2.2
 have htm:=h.tm
 refine ⟨fun s=>?_,fun x hx e=>?_,fun x hx y hy e f=>h.ex x hx y hy (h2 _ e) (h2 _ f),⟨by omega,hn.2⟩,fun x hx=>?_,hp,fun s t e=>(hq s t e).elim (h.tt s t) id,hl⟩
 ·rcases hs s with h1 | h1
  ·rw [h1];exact h.st s
  ·exact ⟨h1.1,h1.2.1⟩
 ·have:=h.fr x hx (h2 _ e);omega
 ·rw [ht];exact h.to x hx
theorem WA.mono {p:GPermitPlan} {d d':List GEvent} {A:AO} (h:WA p d A) (hd:∀ v ∈ d,v ∈ d') (hl:d.length≤d'.length):WA p d' A :=
 ⟨h.st,h.fr,h.ex,h.tm,fun x hx=>(h.to x hx).imp id fun ⟨v,hv,e⟩=>⟨v,hd v hv,e⟩,h.pp,h.tt,by have:=h.pl;omega⟩
theorem WA.snoc {p:GPermitPlan} {d:List GEvent} {A:AO} {x:GEvent} (h:WA p d A):WA p (d ++ [x]) A:=h.mono (fun v hv=>List.mem_append_left _ hv) (by simp)
theorem up_es {A:AO} {n s:Str} {e:ah}:(VY A n e).es s=if s=n then e else A.es s:=bifD
theorem Q7 {A:AO} {n s:Str} {e:ah}:stA (VY A n e) s=if s=n then e.state else stA A s:=by
 unfold stA;rw [up_es];split <;> rfl
theorem WA.up {p:GPermitPlan} {d:List GEvent} {A:AO} {n:Str} {e:ah} (h:WA p d A) (he:0≤e.state∧e.state≤6) (h2:e.state=2→∀ x ∈ p.aj,x.Name=n→x.From≤A.now∧∀ y ∈ p.aj,stA A y.Name=2→yg p x y=false) (ht:e.yQ=(A.es n).yQ∨∃ v ∈ d,v.Op=11∧v.Name=n∧v.To=e.yQ):WA p d (VY A n e):=by
 refine ⟨fun s=>?_,fun x hx=>?_,fun x hx y hy=>?_,h.tm,fun x hx=>?_,h.pp,h.tt,h.pl⟩
 ·rw [Q7];split
  ·exact he
  ·exact h.st s
 ·rw [Q7];split
  ·rename_i hn;intro e2;exact (h2 e2 x hx hn).1
  ·intro e2;exact h.fr x hx e2
 ·rw [Q7,Q7]
  split
  ·rename_i hn
   split
   ·rename_i hm;intro _ _;unfold yg;rw [dT (hn.trans hm.symm)];rfl
   ·intro e2 f2;exact (h2 e2 x hx hn).2 y hy f2
  ·split
   ·rename_i hm;intro e2 f2;rw [Kv];exact (h2 f2 y hy hm).2 x hx e2
   ·exact h.ex x hx y hy
 ·rw [up_es]
  split
  ·rename_i hn
   rcases ht with ht | ⟨v,hv,a,b,c⟩
   ·rw [ht,← hn];exact h.to x hx
   ·exact .inr ⟨v,hv,a,b.trans hn.symm,c⟩
  ·exact h.to x hx
theorem V7 {p:GPermitPlan} {A:AO} {s:Str}:stA (Bc p A) s=stA A s∨(stA (Bc p A) s=6∧stA A s≤3∧(A.es s).yQ≤A.now):=by
 unfold stA Bc Bd
 simp only []
 cases mX p s with
 | false=>exact .inl rfl
 | true =>
  rw [lQ]
  by_cases h:(A.es s).state≤3
  ·rw [dT h]
   by_cases h1:(A.es s).yQ≤A.now
   ·rw [dT h1];exact .inr ⟨rfl,h,h1⟩
   ·rw [dF h1];exact .inl rfl
  ·rw [dF h];exact .inl rfl
theorem ZR {p:GPermitPlan} {A:AO} {s:Str}:((Bc p A).es s).yQ=(A.es s).yQ:=by
 unfold Bc Bd
 simp only []
 cases mX p s with
 | false=>rfl
 | true=>rw [lQ];cases (decide ((A.es s).state≤3)&&decide ((A.es s).yQ≤A.now)) <;> rfl
theorem exp_li {p:GPermitPlan} {A:AO} {s:Str} (hs:mX p s=true) (h:stA (Bc p A) s≤3):A.now<(A.es s).yQ:=by
 unfold stA Bc Bd at h
 simp only [] at h
 rw [hs,lQ] at h
 by_cases h3:(A.es s).state≤3
 ·rw [dT h3] at h
  by_cases h1:(A.es s).yQ≤A.now
  ·rw [dT h1] at h;simp at h
  ·omega
 ·rw [dF h3] at h;simp at h;omega
theorem MO {p:GPermitPlan} {A:AO} {s:Str}:(stA (zo p A) s=stA A s∧¬ (mX p s=true∧stA A s=2∧yh p A (sH p s)=true))∨(stA (zo p A) s=3∧stA A s=2∧yh p A (sH p s)=true):=by
 have e:stA (zo p A) s=(bif mX p s&&decide (stA A s=2)&&yh p A (sH p s) then ({ A.es s with state:=3 }:ah) else A.es s).state:=rfl
 rw [e]
 cases h1:mX p s with
 | false=>exact .inl ⟨rfl,fun h=>by cases h.1⟩
 | true =>
  by_cases h2:stA A s=2
  ·rw [dT h2]
   cases h3:yh p A (sH p s) with
   | false=>exact .inl ⟨rfl,fun h=>by cases h.2.2⟩
   | true=>exact .inr ⟨rfl,h2,rfl⟩
  ·rw [dF h2];exact .inl ⟨rfl,fun h=>h2 h.2.1⟩
theorem ZQ {p:GPermitPlan} {A:AO} {s:Str}:((zo p A).es s).yQ=(A.es s).yQ:=by
 unfold zo
 simp only []
 cases (mX p s&&decide (stA A s=2)&&yh p A (sH p s)) <;> rfl
theorem Jw {p:GPermitPlan} {A:AO} {s:Str}:stA (gZ p A) s=stA A s∨((stA (gZ p A) s=6∨stA (gZ p A) s=3)∧stA A s≤3):=by
 unfold gZ
 rcases MO (p:=p) (A:=Bc p A) (s:=s) with ⟨h1,_⟩ | ⟨h1,h2,_⟩
 ·rw [h1];rcases V7 (p:=p) (A:=A) (s:=s) with h | h
  ·exact .inl h
  ·exact .inr ⟨.inl h.1,h.2.1⟩
 ·refine .inr ⟨.inr h1,?_⟩
  rcases V7 (p:=p) (A:=A) (s:=s) with h | h
  ·rw [← h,h2];decide
  ·exact h.2.1
theorem Jv {p:GPermitPlan} {A:AO} {s:Str}:((gZ p A).es s).yQ=(A.es s).yQ:=ZQ.trans ZR
theorem WA.settle {p:GPermitPlan} {d:List GEvent} {A:AO} (h:WA p d A):WA p d (gZ p A) :=
 h.le (fun s=>(Jw (p:=p) (A:=A) (s:=s)).imp id fun ⟨h1,_⟩=>by rcases h1 with h1 | h1 <;> rw [h1] <;> decide) (fun s=>Jv) ⟨Int.le_refl _,h.tm.2⟩ h.pp (fun s t e=>.inl e) h.pl
theorem UF {p:GPermitPlan} (hp:Ee p) {A:AO} {x:aH} (hx:x ∈ p.aj) (hk:x.Kind=5):yh p A x=false:=by
 have h1:I7 p x=[]:=by unfold I7 AY;rw [hk];rfl
 have h2:x.Locks=[]:=by
  cases hl:x.Locks with
  | nil=>rfl
  | cons l r=>exact absurd hk (hp.lk x hx l (by rw [hl];exact List.mem_cons_self)).2.2
 unfold yh AZ E8
 rw [h1,h2];rfl
theorem jQp {A:AO} {x:aH}:(E8 A x).isEmpty=true↔∀ l ∈ x.Locks,stA A l=2:=by
 unfold E8
 rw [List.isEmpty_iff,List.filter_eq_nil_iff]
 constructor
 ·intro h l hl;have:=h l hl;simpa using this
 ·intro h l hl;rw [h l hl];decide
theorem Dk {p:GPermitPlan} (hp:Ee p) {A:AO} {x:aH} (hx:x ∈ p.aj) (h2:stA (gZ p A) x.Name=2):yh p (gZ p A) x=false:=by
 unfold gZ at h2 ⊢
 have hh:mX p x.Name=true:=zM.2 ⟨x,hx,rfl⟩
 rcases MO (p:=p) (A:=Bc p A) (s:=x.Name) with ⟨h,hn⟩ | ⟨h,_⟩
 ·rw [h] at h2
  have hb:yh p (Bc p A) x=false:=by
   rw [hp.FT hx] at hn
   cases hb:yh p (Bc p A) x with
   | false=>rfl
   | true=>exact absurd ⟨hh,h2,hb⟩ hn
  unfold yh at hb ⊢
  rw [Bool.or_eq_false_iff] at hb ⊢
  refine ⟨hb.1,?_⟩
  have hb2:=hb.2
  rw [Bool.not_eq_false',jQp] at hb2 ⊢
  intro l hl
  obtain ⟨h5,h6,_⟩:=hp.lk x hx l hl
  rcases MO (p:=p) (A:=Bc p A) (s:=l) with ⟨h7,_⟩ | ⟨_,_,h7⟩
  ·rw [h7];exact hb2 l hl
  ·rw [UF hp (Ap h5).1 h6] at h7;cases h7
 ·rw [h] at h2;cases h2
theorem X7 {p:GPermitPlan} {A:AO} {s:Str} (hs:mX p s=true) (h:stA (gZ p A) s≤3):A.now<((gZ p A).es s).yQ:=by
 rw [Jv]
 unfold gZ at h
 refine exp_li hs ?_
 rcases MO (p:=p) (A:=Bc p A) (s:=s) with ⟨h1,_⟩ | ⟨h1,h2,_⟩
 ·rw [h1] at h;exact h
 ·rw [h2];decide
theorem EN {p:GPermitPlan} (hp:Ee p) {d:List GEvent} {A:AO} (h:WA p d A):Sl p { gZ p A with done:=d } :=
 ⟨⟨h.settle.st,h.settle.fr,h.settle.ex,h.settle.tm,h.settle.to,h.settle.pp,h.settle.tt,h.settle.pl⟩,fun x hx e=>Dk hp (A:=A) hx e,fun x hx e=>X7 (A:=A) (zM.2 ⟨x,hx,rfl⟩) e⟩
theorem jQr {p:GPermitPlan} {A:AO} {x:aH} (h:Gz p A x=[]):x.From≤A.now∧∀ y ∈ p.aj,stA A y.Name=2→yg p y x=false:=by
 unfold Gz at h
 obtain ⟨h1,h2⟩:=List.append_eq_nil_iff.1 h
 constructor
 ·by_cases hf : A.now < x.From
  ·rw [dT hf] at h1;cases h1
  ·omega
 ·intro y hy e
  rw [List.filter_eq_nil_iff] at h2
  have:=h2 (⟨20,nC p A (fun y=>yg p y x)⟩:bV) (by simp)
  have h3:nC p A (fun y=>yg p y x)=[]:=by simpa using this
  unfold nC at h3
  rw [List.map_eq_nil_iff,List.filter_eq_nil_iff] at h3
  have:=h3 y hy
  rw [dT e] at this
  simpa using this
theorem SE {q:Str×Str} {n s:Str}:∀ {l:List (Str×Str)},q ∈ JL l n s→q=(n,s)∨q ∈ l
 | [],h=>by simpa [JL] using h
 | a :: r,h=>by
  unfold JL at h
  cases hd:decide (a.1<n) with
  | false=>rw [hd,lT] at h;simpa using h
  | true =>
   rw [hd,lQ] at h
   rcases List.mem_cons.1 h with rfl | h
   ·exact .inr List.mem_cons_self
   ·exact (SE h).imp id fun h=>List.mem_cons_of_mem _ h
theorem Xf {n s:Str}:∀ {l:List (Str×Str)},(JL l n s).length=l.length+1
 | []=>rfl
 | a :: r=>by
  unfold JL
  cases decide (a.1<n) with
  | true=>rw [lQ,List.length_cons,Xf,List.length_cons]
  | false=>rfl
theorem PN {n s : Str} : ∀ {l : List (Str × Str)}, (l.any fun q => decide (q.1 = n)) = false → l.Pairwise (fun a b => a.1 < b.1) → (JL l n s).Pairwise (fun a b => a.1 < b.1)
  | [],_,_=>by simp [JL]
  | a :: r,hn,h=>by
    rw [List.any_cons,Bool.or_eq_false_iff,decide_eq_false_iff_not] at hn
    rw [List.pairwise_cons] at h
    unfold JL
    cases hd:decide (a.1<n) with
    | false =>
      rw [lT,List.pairwise_cons]
      rw [decide_eq_false_iff_not] at hd
      have hlt:n<a.1:=by
        rcases List.le_iff_lt_or_eq.1 (show n≤a.1 from hd) with h1 | h1
        · exact h1
        · exact absurd h1.symm hn.1
      refine ⟨fun q hq=>?_,List.pairwise_cons.2 h⟩
      rcases List.mem_cons.1 hq with rfl | hq
      · exact hlt
      · exact List.lt_trans hlt (h.1 q hq)
    | true =>
      rw [decide_eq_true_eq] at hd
      rw [lQ,List.pairwise_cons]
      refine ⟨fun q hq=>?_,PN hn.2 h.2⟩
      rcases SE hq with rfl | hq
      · exact hd
      · exact h.1 q hq
def StepA (p:GPermitPlan) (A:AO) (x:GEvent) (r:AO×List Str×Int):Prop :=
 (r.2.2≠0→r.1=A)∧(∀ d,WA p d A→WA p (d ++ [x]) r.1)∧r.1.now=A.now∧r.1.done=A.done ∧
 (∀ s,stA A s ≥ 4→stA r.1 s=stA A s)∧(∀ s,stA r.1 s=2→stA A s≠2→(x.Op=2∨x.Op=4)∧x.Name=s∧r.2.2=0)
theorem rM {p:GPermitPlan} {A:AO} {x:GEvent} {e:Int} {l:List Str}:StepA p A x (wO A e l) :=
 ⟨fun _=>rfl,fun d h=>h.snoc,rfl,rfl,fun _ _=>rfl,fun s h1 h2=>absurd h1 h2⟩
theorem step_up {p:GPermitPlan} {A:AO} {x:GEvent} {n:Str} {e:ah} (h4:stA A n≤3) (he:0≤e.state∧e.state≤6) (h2:∀ d,WA p d A→e.state=2→∀ x ∈ p.aj,x.Name=n→x.From≤A.now∧∀ y ∈ p.aj,stA A y.Name=2→yg p x y=false) (ht:e.yQ=(A.es n).yQ∨(x.Op=11∧x.Name=n∧x.To=e.yQ)) (ho:e.state=2→stA A n≠2→(x.Op=2∨x.Op=4)∧x.Name=n):StepA p A x (BB (VY A n e)):=by
 refine ⟨fun h=>absurd rfl h,fun d h=>?_,rfl,rfl,fun s hs=>?_,fun s h1 hne=>?_⟩
 ·exact h.snoc.up he (fun e2=>h2 d h e2) (ht.imp id fun ⟨a,b,c⟩=>⟨x,List.mem_append_right _ (List.mem_singleton_self _),a,b,c⟩)
 ·show stA (VY A n e) s=_
  rw [Q7]
  split
  ·rename_i h;subst h;omega
  ·rfl
 ·have h1':stA (VY A n e) s=2:=h1
  rw [Q7] at h1'
  split at h1'
  ·rename_i h;subst h;exact ⟨(ho h1' hne).1,(ho h1' hne).2,rfl⟩
  ·exact absurd h1' hne
theorem SH {p:GPermitPlan} {A:AO} {x:GEvent} {n:Str} {k:Int} (h4:stA A n≤3) (hk:0≤k∧k≤6) (h2:k≠2):StepA p A x (BB (Qb A n k)) :=
 step_up h4 hk (fun d _ e=>absurd e h2) (.inl rfl) (fun e=>absurd e h2)
theorem Jy {p:GPermitPlan} {A A':AO} {x:GEvent} (he:A'.es=A.es) (hn:A'.now=A.now) (hd:A'.done=A.done) (hp:A.pp.Pairwise (fun a b=>a.1<b.1)→A'.pp.Pairwise (fun a b=>a.1<b.1)) (hq:0≤A.now∧A.now≤1000000→∀ s t,A'.ts s=some t→A.ts s=some t∨(0≤t.at_∧t.at_≤1000000)) (hl:A'.pp.length≤A.pp.length+1):StepA p A x (BB A'):=by
 have hs:∀ s,stA A' s=stA A s:=fun s=>by unfold stA;rw [he]
 refine ⟨fun h=>absurd rfl h,fun d h=>?_,hn,hd,fun s _=>hs s,fun s h1 h2=>absurd ((hs s).symm.trans h1) h2⟩
 exact h.snoc.le (fun s=>.inl (hs s)) (fun s=>by show (A'.es s).yQ=_;rw [he]) ⟨by show A.now≤A'.now;omega,by have:=h.tm;show A'.now≤_;omega⟩ (hp h.pp) (hq h.tm) (by have:=h.pl;rw [List.length_append];simp only [List.length_singleton];show A'.pp.length≤_;omega)
theorem PO {p:GPermitPlan} (hp:Ee p) {A:AO} {x:GEvent} (ho:x.Op=2∨x.Op=4) (h4:stA A x.Name≤3) (hh:mX p x.Name=true):StepA p A x (Ai p A x):=by
 unfold Ai
 cases lZ x.Person with
 | false=>exact rM
 | true =>
  cases decide (x.Person=(A.es x.Name).zS) with
  | true=>exact rM
  | false =>
   simp only [Bool.not_true,lT]
   cases hw:Gz p A (sH p x.Name) with
   | cons r l=>exact rM
   | nil =>
    refine step_up h4 (by simp) (fun d hd _ y hy hn=>?_) (.inl rfl) (fun _ _=>⟨ho,rfl⟩)
    have hy2:sH p x.Name=y:=by rw [← hn];exact hp.FT hy
    rw [hy2] at hw
    obtain ⟨h1,h2⟩:=jQr hw
    exact ⟨h1,fun z hz e=>by rw [Kv];exact h2 z hz e⟩
theorem Ll {p:GPermitPlan} (hp:Ee p) {A:AO} {x:GEvent} (h0:0≤x.Op) (h12:x.Op<12):StepA p A x (wL p A x):=by
  have hop:x.Op=0∨x.Op=1∨x.Op=2∨x.Op=3∨x.Op=4∨x.Op=5∨x.Op=6∨x.Op=7∨x.Op=8∨x.Op=9∨x.Op=10∨x.Op=11:=by omega
  have acts:∀ {l:List Int} {R:AO×List Str×Int},(∀ k ∈ l,k≤3)→(mX p x.Name=true→stA A x.Name ∈ l→stA A x.Name≤3→StepA p A x R)→StepA p A x (bif !mX p x.Name then wO A 6 [] else bif !l.contains (stA A x.Name) then wO A 18 [] else R):=by
    intro l R hl hR
    cases hh:mX p x.Name with
    | false=>exact rM
    | true =>
      cases hc:l.contains (stA A x.Name) with
      | false=>exact rM
      | true =>
        have hm:stA A x.Name ∈ l:=by simpa using hc
        exact hR hh hm (hl _ hm)
  unfold wL xN wM
  rcases hop with h | h | h | h | h | h | h | h | h | h | h | h <;> simp only [h,if_true,if_false,Int.reduceEq]
  · exact Jy rfl rfl rfl id (fun _ s t e=>.inl e) (Nat.le_succ _)
  · refine acts (by decide) fun hh hm h4 => ?_
    unfold Dl
    cases lZ x.Person with
    | false=>exact rM
    | true=>exact step_up h4 (by simp) (fun _ _ e=>by cases e) (.inl rfl) (fun e=>by cases e)
  · exact acts (by decide) fun hh hm h4=>PO hp (.inl h) h4 hh
  · exact acts (by decide) fun hh hm h4=>SH h4 (by decide) (by decide)
  · exact acts (by decide) fun hh hm h4=>PO hp (.inr h) h4 hh
  · refine acts (by decide) fun hh hm h4 => ?_
    unfold BD
    simp only []
    cases (decide ((sH p x.Name).Kind=5) && !(nC p A (fun z=>EQ z.Locks (sH p x.Name).Name)).isEmpty) with
    | true=>exact rM
    | false =>
      rw [lT]
      cases (decide ((sH p x.Name).Kind=1)&&decide (stA A (sH p x.Name).Name=2)&&(y9 p (sH p x.Name).Space).dH&&(nC p A (fun z=>decide (z.Kind=1)&&decide (z.Space=(sH p x.Name).Space) && !decide (z.Name=(sH p x.Name).Name))).isEmpty && !(yV A (fun s=>decide (s=(sH p x.Name).Space))).isEmpty) with
      | true=>exact rM
      | false=>exact SH h4 (by decide) (by decide)
  · exact acts (by decide) fun hh hm h4=>SH h4 (by decide) (by decide)
  · unfold Uu
    cases xw p x.Space with
    | false=>exact rM
    | true =>
      cases (decide (x.oz<0)||decide (1000<x.oz)||decide (x.GY<0)||decide (1000<x.GY)) with
      | true=>exact rM
      | false =>
        refine Jy rfl rfl rfl id (fun hn s t e=>?_) (Nat.le_succ _)
        simp only [] at e
        cases hd:decide (s=x.Space) with
        | true=>rw [hd,lQ] at e;cases e;exact .inr hn
        | false=>rw [hd,lT] at e;exact .inl e
  · unfold Jd
    cases lZ x.Person with
    | false=>exact rM
    | true =>
      cases xw p x.Space with
      | false=>exact rM
      | true =>
        cases hi:Aa A x.Person with
        | true=>exact rM
        | false =>
          simp only [Bool.not_true,lT]
          cases ((y9 p x.Space).dH && !xM p A x.Space) with
          | true=>exact rM
          | false =>
            rw [lT]
            cases (!(nC p A (fun y=>decide (y.Kind=3)&&decide (kY p y.Space x.Space≤1))).isEmpty) with
            | true=>exact rM
            | false=>exact Jy rfl rfl rfl (fun hpp=>PN hi hpp) (fun _ s t e=>.inl e) (Nat.le_of_eq Xf)
  · unfold Jc
    cases lZ x.Person with
    | false=>exact rM
    | true =>
      cases Aa A x.Person with
      | false=>exact rM
      | true=>exact Jy rfl rfl rfl (fun hpp=>hpp.filter _) (fun _ s t e=>.inl e) (Nat.le_succ_of_le (List.length_filter_le _ _))
  · unfold Jb
    cases xw p x.Space with
    | false=>exact rM
    | true =>
      simp only [Bool.not_true,lT]
      have hs:∀ s,stA { A with es:=fun s=>bif mX p s&&decide (stA A s=2)&&(!decide ((sH p s).Kind=5)&&decide (kY p (sH p s).Space x.Space≤1)) then { A.es s with state:=3 } else A.es s } s=stA A s∨(stA { A with es:=fun s=>bif mX p s&&decide (stA A s=2)&&(!decide ((sH p s).Kind=5)&&decide (kY p (sH p s).Space x.Space≤1)) then { A.es s with state:=3 } else A.es s } s=3∧stA A s=2):=by
        intro s
        unfold stA
        simp only []
        cases mX p s with
        | false=>exact .inl rfl
        | true =>
          by_cases h2:(A.es s).state=2
          · rw [dT h2]
            cases (!decide ((sH p s).Kind=5)&&decide (kY p (sH p s).Space x.Space≤1)) with
            | false=>exact .inl rfl
            | true=>exact .inr ⟨rfl,h2⟩
          · rw [dF h2];exact .inl rfl
      refine ⟨fun h=>absurd rfl h,fun d hd=>?_,rfl,rfl,fun s h4=>?_,fun s h1 h2=>?_⟩
      · refine hd.snoc.le (fun s => (hs s).imp id fun h => by show _ ∧ _ ∧ _; rw [show stA (BB _).1 s = 3 from h.1]; decide) (fun s => ?_) ⟨Int.le_refl _, hd.tm.2⟩ hd.pp (fun s t e => .inl e) hd.snoc.pl
        show (bif _ then ({ A.es s with state:=3 }:ah) else A.es s).yQ=_
        cases (mX p s&&decide (stA A s=2)&&(!decide ((sH p s).Kind=5)&&decide (kY p (sH p s).Space x.Space≤1))) <;> rfl
      · rcases hs s with h | h
        · exact h
        · omega
      · rcases hs s with h | h
        · exact absurd (h.symm.trans h1) h2
        · exact absurd h.2 h2
  · refine acts (by decide) fun hh hm h4 => ?_
    unfold Fp
    cases lZ x.Person with
    | false=>exact rM
    | true =>
      cases (decide (x.To≤(A.es x.Name).yQ)||decide (1000000<x.To)) with
      | true=>exact rM
      | false =>
        have hm':stA A x.Name=1∨stA A x.Name=2∨stA A x.Name=3:=by simpa using hm
        refine step_up h4 ⟨?_,?_⟩ (fun d hd e y hy hn=>?_) (.inr ⟨h,rfl,rfl⟩) (fun e hne=>absurd e hne)
        · show 0≤stA A x.Name;omega
        · show stA A x.Name≤6;omega
        · have e':stA A x.Name=2:=e
          rw [← hn] at e'
          exact ⟨hd.fr y hy e',fun z hz e2=>hd.ex y hy z hz e' e2⟩
theorem ZI {p:GPermitPlan} (hp:Ee p) {A:AO} {x:GEvent} (h:Sl p A):Sl p (CQ p A x).1∧A.now≤(CQ p A x).1.now∧(∀ s,stA A s ≥ 4→stA (CQ p A x).1 s=stA A s)∧(∀ s,stA (CQ p A x).1 s=2→stA A s≠2→(x.Op=2∨x.Op=4)∧x.Name=s∧(CQ p A x).2.2=0):=by
  unfold CQ
  by_cases hr:x.Op<0∨12≤x.Op∨x.At<0∨1000000<x.At
  · have hr' : (decide (x.Op < 0) || decide (12 ≤ x.Op) || decide (x.At < 0) || decide (1000000 < x.At)) = true := by simpa [or_assoc] using hr
    rw [hr']
    exact ⟨h,Int.le_refl _,fun _ _=>rfl,fun s h1 h2=>absurd h1 h2⟩
  · have hr' : (decide (x.Op < 0) || decide (12 ≤ x.Op) || decide (x.At < 0) || decide (1000000 < x.At)) = false := by simp; omega
    rw [hr',lT]
    by_cases ho:x.At<A.now
    · rw [dT ho];exact ⟨h,Int.le_refl _,fun _ _=>rfl,fun s h1 h2=>absurd h1 h2⟩
    rw [dF ho,lT]
    have hw:WA p A.done { A with now:=x.At }:=h.w.le (fun s=>.inl rfl) (fun _=>rfl) ⟨by show A.now≤x.At;omega,by show x.At≤1000000;omega⟩ h.w.pp (fun s t e=>.inl e) h.w.pl
    have hi:=EN hp hw
    have hset:∀ s,stA (gZ p { A with now:=x.At }) s=stA A s∨((stA (gZ p { A with now:=x.At }) s=6∨stA (gZ p { A with now:=x.At }) s=3)∧stA A s≤3):=fun s=>Jw (p:=p) (A:={ A with now:=x.At }) (s:=s)
    obtain ⟨s1,s2,s3,s4,s5,s6⟩:=Ll hp (A:=gZ p { A with now:=x.At }) (x:=x) (by omega) (by omega)
    generalize hR:wL p (gZ p { A with now:=x.At }) x=R at s1 s2 s3 s4 s5 s6
    simp only []
    by_cases h0:R.2.2=0
    · rw [dT h0,lQ]
      have hw2:=s2 _ hi.w
      refine ⟨EN hp (d:=A.done ++ [x]) hw2,?_,fun s hs=>?_,fun s h1 h2=>?_⟩
      · show A.now≤R.1.now
        rw [s3];show A.now≤x.At;omega
      · show stA (gZ p R.1) s=stA A s
        have e1:stA (gZ p { A with now:=x.At }) s=stA A s:=by
          rcases hset s with e | ⟨_,e⟩
          · exact e
          · omega
        have e2:=s5 s (by omega)
        rcases Jw (p:=p) (A:=R.1) (s:=s) with e | ⟨_,e⟩ <;> omega
      · have h1':stA (gZ p R.1) s=2:=h1
        have e2:stA R.1 s=2:=by
          rcases Jw (p:=p) (A:=R.1) (s:=s) with e | ⟨e,_⟩ <;> omega
        have e3:stA (gZ p { A with now:=x.At }) s≠2:=by
          rcases hset s with e | ⟨e,_⟩ <;> omega
        obtain ⟨a,b,c⟩:=s6 s e2 e3
        exact ⟨a,b,rfl⟩
    · rw [dF h0,lT]
      have hB:=s1 h0
      rw [hB]
      refine ⟨hi,?_,fun s hs=>?_,fun s h1 h2=>?_⟩
      · show A.now≤x.At;omega
      · rcases hset s with e | ⟨_,e⟩
        · exact e
        · omega
      · exfalso
        rcases hset s with e | ⟨e,_⟩ <;> omega
theorem jQs {p:GPermitPlan} (hp:Ee p):Sl p (FQ p):=by
 refine EN hp (d:=[]) (A:=⟨0,fun s=>bif mX p s then ⟨0,[],(sH p s).To⟩ else ⟨0,[],0⟩,fun _=>none,[],[]⟩) ⟨fun s=>?_,fun x hx e=>?_,fun x hx y hy e=>?_,(by simp),fun x hx=>?_,List.Pairwise.nil,(fun s t e=>by cases e),Nat.le_refl _⟩
 ·unfold stA;simp only [];cases mX p s <;> simp
 ·exfalso;unfold stA at e;simp only [] at e;cases hh:mX p x.Name <;> rw [hh] at e <;> cases e
 ·exfalso;unfold stA at e;simp only [] at e;cases hh:mX p x.Name <;> rw [hh] at e <;> cases e
 ·refine .inl ?_
  simp only []
  rw [zM.2 ⟨x,hx,rfl⟩,lQ,hp.FT hx]
end Go.KB
namespace Go.KB
set_option linter.unusedVariables false
theorem Lm {S O:Type} {n N:Nat} {f:S→Option (S ⊕ O)} (I:Nat→S→Prop) (Q:O→Prop) {s0:S} (h0:I 0 s0) (h:∀ i s,i<n→I i s→∃ s',f s=some (.inl s')∧I (i+1) s') (he:∀ s,I n s→∃ o,f s=some (.inr o)∧Q o) (hN:n<N):∃ o,dU f N s0=some o∧Q o:=by
 have key:∀ k i s,i+k=n→I i s→∀ M,k<M→∃ o,dU f M s=some o∧Q o:=by
  intro k
  induction k with
  | zero =>
   intro i s hi hs M hM
   obtain ⟨M,rfl⟩:∃ m,M=m+1:=⟨M - 1,by omega⟩
   have:i=n:=by omega
   subst this
   obtain ⟨o,h1,h2⟩:=he s hs
   exact ⟨o,by simp only [dU,h1],h2⟩
  | succ k ih =>
   intro i s hi hs M hM
   obtain ⟨M,rfl⟩:∃ m,M=m+1:=⟨M - 1,by omega⟩
   obtain ⟨s',h1,h2⟩:=h i s (by omega) hs
   simp only [dU,h1]
   exact ih (i+1) s' (by omega) h2 M (by omega)
 exact key n 0 s0 (by omega) h0 N (by omega)
theorem Jz {α β:Type} [DecidableEq α] (x k:α) (y:β):∀ m:List (α×β),pX (sG m x y) k=(decide (k=x)||pX m k)
 | []=>by simp [pX,sG]
 | q :: r=>by
  unfold sG
  by_cases h:x=q.1
  ·rw [dT h,lQ];unfold pX;rw [← h];cases decide (k=x) <;> simp
  ·rw [dF h,lT];unfold pX;rw [Jz x k y r]
   cases decide (k=q.1) <;> cases decide (k=x) <;> rfl
structure PS (p:GPermitPlan) (es:Str→ah) (st:List (Str×ah)):Prop where
 get:∀ s,mX p s=true→jr (⟨0,[],0⟩:ah) st s=es s
 has:∀ s,pX st s=mX p s
theorem PS.set {p:GPermitPlan} {es:Str→ah} {st:List (Str×ah)} (h:PS p es st) {n:Str} (hn:mX p n=true) (e:ah):PS p (fun s=>bif decide (s=n) then e else es s) (sG st n e):=by
 refine ⟨fun s hs=>?_,fun s=>?_⟩
 ·rw [GI]
  by_cases he:s=n
  ·rw [if_pos he,dT he];rfl
  ·rw [if_neg he,dF he];exact h.get s hs
 ·rw [Jz,h.has]
  by_cases he:s=n
  ·rw [dT he,he,hn];rfl
  ·rw [dF he];rfl
theorem PS.congr {p:GPermitPlan} {es es':Str→ah} {st:List (Str×ah)} (h:PS p es st) (he:∀ s,mX p s=true→es s=es' s):PS p es' st:=⟨fun s hs=>by rw [h.get s hs,he s hs],h.has⟩
structure RelB (p:GPermitPlan) (A:AO) (g:af) (pK:List (Str×au)):Prop where
 plan:g.plan=p
 now:g.now=A.now
 PU:∀ s,pX pK s=(A.ts s).isSome
 PV:∀ s t,A.ts s=some t→jr (⟨0,0,0⟩:au) pK s=t
structure RelA (p:GPermitPlan) (A:AO) (g:af) (st:List (Str×ah)) (pK:List (Str×au)) (pe:List (Str×Str)):Prop where
 b:RelB p A g pK
 st:PS p A.es st
 pe:pe.Perm A.pp
 done:g.done=A.done
structure I5 (A:AO):Prop where
 tm:0≤A.now∧A.now≤1000000
 st:∀ s,0≤stA A s∧stA A s≤6
 tt:∀ s t,A.ts s=some t→0≤t.at_∧t.at_≤1000000
 pl:A.pp.length<1000000
theorem WA.bd {p:GPermitPlan} {d:List GEvent} {A:AO} (h:WA p d A) (hd:d.length<1000000):I5 A:=⟨h.tm,h.st,h.tt,Nat.lt_of_le_of_lt h.pl hd⟩
section
variable {N:Nat} {p:GPermitPlan} {A:AO} {g:af} {st:List (Str×ah)} {pK:List (Str×au)} {pe:List (Str×Str)} (hp:EP p) (hN:1000000≤N) (h:RelB p A g pK) (b:I5 A)
include hp hN h b
theorem jQt {s:Str}:su N g st pK pe s=some (QU p A s,QT p A s):=by
 have hs:=hp.s
 unfold su QU QT
 rw [h.plan,AP (by omega) hN,bS,h.PU s,h.now]
 show (bif !(y9 p s).dH then _ else _)=_
 cases (y9 p s).dH with
 | false=>rfl
 | true =>
  simp only [Bool.not_true,lT]
  cases ht:A.ts s with
  | none=>rfl
  | some t =>
   have h1:=b.tt s t ht
   have h2:=b.tm
   rw [h.PV s t ht,w64i (by omega) (by omega)]
   simp only [Option.isSome_some,Bool.true_and,wK,BA]
theorem Nu {x:aH} {s:Str}:nJ N g st pK pe s x=some (EK p A x s):=by
 unfold nJ EK
 rw [jQt hp hN h b,bS,iW]
 cases decide (x.Kind=0) <;> rfl
theorem PW {x:aH}:oh N g st pK pe x=some (AZ p A x):=by
 have hl:=PG (x:=x) hp
 unfold oh
 rw [h.plan,Z8 hp hN,bS]
 have hi:iD N g st pK pe (I7 p x) x=some (Il (EK p A x) (I7 p x)):=by
  unfold iD
  refine zf (fun i hi=>?_) ?_ (by omega)
  ·unfold iq
   rw [bW,dT (by omega),lQ,jd hi,bS,Nu hp hN h b,bS,qx (by omega)]
  ·unfold iq
   rw [bW,dF (by omega),lT]
 have hd:iy N g st pK pe (I7 p x) x=some (AZ p A x):=by
  unfold iy
  rw [hi,bS]
  refine del_eq (g:=EK p A x) (fun xs i j hj hij hj2 hm=>?_) (fun xs i=>?_) (by omega) hN
  ·unfold gX
   simp only []
   rw [bW,dT (by omega),lQ,jd hj,bS,Nu hp hN h b,bS,qx (by omega),qx (by omega),jd (by omega),bS,Int.toNat_natCast]
  ·unfold gX
   simp only []
   rw [bW,dF (by omega),lT]
 rw [hd];rfl
end
theorem Ky {N:Nat} {p:GPermitPlan} {A:AO} {g:af} {st:List (Str×ah)} {pK:List (Str×au)} {pe:List (Str×Str)} (hN:1000000≤N) (hst:PS p A.es st) {n:Str} {l:List Int} (hn:mX p n=true) (hl:l.length<100):fG N g st pK pe n l=some (l.contains (stA A n)):=by
 unfold fG
 rw [PX (by omega) hN,bS,hst.get n hn];rfl
theorem Nv {N:Nat} {p:GPermitPlan} {A:AO} {g:af} {st:List (Str×ah)} {pK:List (Str×au)} {pe:List (Str×Str)} (hp:EP p) (hN:1000000≤N) (hst:PS p A.es st) {x:aH} (hx:x.Locks.length<1000) (hlk:∀ l ∈ x.Locks,mX p l=true):mQ N g st pK pe x=some (E8 A x):=by
 have hlim:lim ≥ 1000000:=by decide
 unfold mQ
 have hc:iE N x.Locks=some x.Locks:=by
  unfold iE
  rw [Ah (by simp only [List.length_nil];omega)];rfl
 rw [hc,bS]
 have h1:∀ s,lm N g st pK pe s=some (decide (stA A s=2))∨¬ mX p s=true:=by
  intro s
  by_cases hs:mX p s=true
  ·left
   unfold lm
   rw [Ky hN hst hs (by decide),bS]
   congr 1
   rw [Bool.eq_iff_iff];simp
  ·exact .inr hs
 have h2:∀ s ∈ x.Locks,lm N g st pK pe s=some (decide (stA A s=2)):=fun s hs=>(h1 s).elim id fun hn=>absurd (hlk s hs) hn
 have hi:iC N g st pK pe x.Locks=some (Il (fun s=>decide (stA A s=2)) x.Locks):=by
  unfold iC
  refine zf (fun i hi=>?_) ?_ (by omega)
  ·unfold gY
   rw [bW,dT (by omega),lQ,jd hi,bS,h2 _ (List.getElem_mem hi),bS,qx (by omega)]
  ·unfold gY
   rw [bW,dF (by omega),lT]
 unfold jc
 rw [hi,bS,del_eq (g:=fun s=>decide (stA A s=2)) (f:=fE N g st pK pe) (fun xs i j hj hij hj2 hm=>?_) (fun xs i=>?_) (by omega) hN]
 ·rfl
 ·unfold fE
  simp only []
  rw [bW,dT (by omega),lQ,jd hj,bS,h2 _ hm,bS,qx (by omega),qx (by omega),jd (by omega),bS,Int.toNat_natCast]
 ·unfold fE
  simp only []
  rw [bW,dF (by omega),lT]
def DF (p:GPermitPlan) (i:Nat) (s:Str):Bool:=(p.aj.take i).any (Qc s)
theorem Lj {p:GPermitPlan} {s:Str}:DF p p.aj.length s=mX p s:=by unfold DF mX;rw [List.take_length]
theorem I8 {p:GPermitPlan} {i:Nat} (hi:i<p.aj.length) {s:Str}:DF p (i+1) s=(DF p i s||decide (p.aj[i].Name=s)):=by
 unfold DF;rw [List.take_succ_eq_append_getElem hi,List.any_append];simp [Qc]
theorem SA {p:GPermitPlan} (ho:Ee p) {i:Nat} (hi:i<p.aj.length):DF p i p.aj[i].Name=false:=by
 unfold DF
 rw [Bool.eq_false_iff]
 intro hx
 rw [List.any_eq_true] at hx
 obtain ⟨y,hy,hg⟩:=hx
 obtain ⟨j,hj,rfl⟩:=List.getElem_of_mem hy
 rw [List.length_take] at hj
 rw [List.getElem_take] at hg
 simp only [Qc,decide_eq_true_eq] at hg
 have:=ho.pd j i (by omega) hi (by rw [CB (by omega),CB hi,hg])
 omega
theorem JA {p:GPermitPlan} {i:Nat} (hi:i<p.aj.length):mX p p.aj[i].Name=true:=zM.2 ⟨_,List.getElem_mem hi,rfl⟩
theorem Z9 {N:Nat} {p:GPermitPlan} {A:AO} {g:af} {st:List (Str×ah)} {pK:List (Str×au)} {pe:List (Str×Str)} (hp:EP p) (ho:Ee p) (hN:1000000≤N) (h:RelB p A g pK) (hst:PS p A.es st) (b:I5 A):∃ st',dU (nK N g pK pe) N (0,st)=some st'∧PS p (Bc p A).es st':=by
 have hm:=hp.m
 refine Lm (n:=p.aj.length) (fun i s=>s.1=(i:Int)∧PS p (fun s=>bif DF p i s then Bd A.now (A.es s) else A.es s) s.2) _ ⟨rfl,hst.congr fun s _=>by unfold DF;simp⟩ (fun i s hi hs=>?_) (fun s hs=>?_) (by omega)
 ·obtain ⟨s1,st'⟩:=s
  obtain ⟨rfl,hr⟩:=hs
  simp only [] at hr
  have hn:=JA hi
  have he:(bif DF p i p.aj[i].Name then Bd A.now (A.es p.aj[i].Name) else A.es p.aj[i].Name)=A.es p.aj[i].Name:=by rw [SA ho hi];rfl
  have hg:=hr.get _ hn
  rw [he] at hg
  have hst:=b.st p.aj[i].Name
  unfold stA at hst
  have hc:([0,1,2,3]:List Int).contains (A.es p.aj[i].Name).state=decide ((A.es p.aj[i].Name).state≤3):=by
   rw [Bool.eq_iff_iff];simp;omega
  have hi':fG N g st' pK pe p.aj[i].Name [0,1,2,3]=some (decide ((A.es p.aj[i].Name).state≤3)):=by
   unfold fG
   rw [PX (by decide) hN,bS,hg,hc]
  have hnext:∀ (e:ah),e=Bd A.now (A.es p.aj[i].Name)→∀ s,mX p s=true→(bif decide (s=p.aj[i].Name) then e else (bif DF p i s then Bd A.now (A.es s) else A.es s))=(bif DF p (i+1) s then Bd A.now (A.es s) else A.es s):=by
   intro e hee s _
   rw [I8 hi]
   by_cases hs:s=p.aj[i].Name
   ·subst hs;rw [dT rfl,Bool.or_true,lQ,lQ,hee]
   ·rw [dF hs,dF (fun x=>hs x.symm),Bool.or_false];rfl
  unfold nK
  simp only []
  rw [h.plan,bW,dT (by omega),lQ,jd hi,bS,hi',bS,hg,wK,h.now,qx (by omega)]
  cases hx:(decide ((A.es p.aj[i].Name).state≤3)&&decide ((A.es p.aj[i].Name).yQ≤A.now)) with
  | true =>
   refine ⟨_,rfl,rfl,?_⟩
   rw [hg]
   exact (hr.set hn _).congr (hnext _ (by unfold Bd;rw [hx];rfl))
  | false =>
   refine ⟨_,rfl,rfl,?_⟩
   refine hr.congr fun s hs=>?_
   rw [← hnext _ rfl s hs]
   by_cases he2:s=p.aj[i].Name
   ·subst he2;rw [dT rfl,lQ,he];unfold Bd;rw [hx];rfl
   ·rw [dF he2];rfl
 ·obtain ⟨s1,st'⟩:=s
  obtain ⟨rfl,hr⟩:=hs
  unfold nK
  simp only []
  rw [h.plan,bW,dF (by omega),lT]
  exact ⟨_,rfl,hr.congr fun s _=>by rw [Lj];rfl⟩
theorem Xd {p:GPermitPlan} (ho:Ee p) {B:AO} {l:Str} (hl:mX p l=true) (hk:(sH p l).Kind=5):(zo p B).es l=B.es l:=by
 show (bif mX p l&&decide (stA B l=2)&&yh p B (sH p l) then ({ B.es l with state:=3 }:ah) else B.es l)=_
 rw [UF ho (Ap hl).1 hk,Bool.and_false];rfl
theorem gt0 {α:Type} {l:List α}:aF .gtr (List.length l:Int) 0 = !l.isEmpty:=by
 rw [uf]
 cases l with
 | nil=>rfl
 | cons x r=>simp
theorem UG {N:Nat} {p:GPermitPlan} {B:AO} {g:af} {st:List (Str×ah)} {pK:List (Str×au)} {pe:List (Str×Str)} (hp:EP p) (ho:Ee p) (hN:1000000≤N) (h:RelB p B g pK) (hst:PS p B.es st) (b:I5 B):∃ o:Bool×List (Str×ah),dU (lY N g pK pe) N (false,0,st)=some o∧PS p (zo p B).es o.2∧o.1=p.aj.any (fun x=>decide (stA B x.Name=2)&&yh p B x):=by
 have hm:=hp.m
 refine Lm (n:=p.aj.length) (fun i s=>s.2.1=(i:Int)∧PS p (fun s=>bif DF p i s then (zo p B).es s else B.es s) s.2.2∧s.1=(p.aj.take i).any (fun x=>decide (stA B x.Name=2)&&yh p B x)) _ ⟨rfl,hst.congr fun s _=>by unfold DF;simp,by simp⟩ (fun i s hi hs=>?_) (fun s hs=>?_) (by omega)
 ·obtain ⟨fl,s1,st'⟩:=s
  obtain ⟨rfl,hr,rfl⟩:=hs
  simp only [] at hr
  have hx:=List.getElem_mem hi
  have hn:=JA hi
  have he:(bif DF p i p.aj[i].Name then (zo p B).es p.aj[i].Name else B.es p.aj[i].Name)=B.es p.aj[i].Name:=by rw [SA ho hi];rfl
  have hg:=hr.get _ hn
  rw [he] at hg
  have hi':fG N g st' pK pe p.aj[i].Name [2]=some (decide (stA B p.aj[i].Name=2)):=by
   unfold fG
   rw [PX (by decide) hN,bS,hg]
   congr 1
   unfold stA
   rw [Bool.eq_iff_iff];simp
  have hlk:mQ N g st' pK pe p.aj[i]=some (E8 B p.aj[i]):=by
   rw [Nv (A:={ B with es:=fun s=>bif DF p i s then (zo p B).es s else B.es s }) hp hN hr (hp.l _ hx) (fun l hl=>(ho.lk _ hx l hl).1)]
   congr 1
   unfold E8
   refine List.filter_congr fun l hl=>?_
   have:=ho.lk _ hx l hl
   have e:stA { B with es:=fun s=>bif DF p i s then (zo p B).es s else B.es s } l=stA B l:=by
    show (bif DF p i l then (zo p B).es l else B.es l).state=_
    rw [Xd ho this.1 this.2.1]
    cases DF p i l <;> rfl
   rw [e]
  have hnext:∀ (e:ah),e=(zo p B).es p.aj[i].Name→∀ s,mX p s=true→(bif decide (s=p.aj[i].Name) then e else (bif DF p i s then (zo p B).es s else B.es s))=(bif DF p (i+1) s then (zo p B).es s else B.es s):=by
   intro e hee s _
   rw [I8 hi]
   by_cases hs:s=p.aj[i].Name
   ·subst hs;rw [dT rfl,Bool.or_true,lQ,lQ,hee]
   ·rw [dF hs,dF (fun x=>hs x.symm),Bool.or_false];rfl
  have XZ:(zo p B).es p.aj[i].Name=(bif decide (stA B p.aj[i].Name=2)&&yh p B p.aj[i] then ({ B.es p.aj[i].Name with state:=3 }:ah) else B.es p.aj[i].Name):=by
   show (bif mX p p.aj[i].Name&&decide (stA B p.aj[i].Name=2)&&yh p B (sH p p.aj[i].Name) then ({ B.es p.aj[i].Name with state:=3 }:ah) else B.es p.aj[i].Name)=_
   rw [hn,ho.FT hx,Bool.true_and]
  have hany:(p.aj.take (i+1)).any (fun x=>decide (stA B x.Name=2)&&yh p B x)=((p.aj.take i).any (fun x=>decide (stA B x.Name=2)&&yh p B x)||(decide (stA B p.aj[i].Name=2)&&yh p B p.aj[i])):=by
   rw [List.take_succ_eq_append_getElem hi,List.any_append];simp
  have hsame:(decide (stA B p.aj[i].Name=2)&&yh p B p.aj[i])=false→PS p (fun s=>bif DF p (i+1) s then (zo p B).es s else B.es s) st':=fun hb=>hr.congr fun s hs=>by
   rw [← hnext _ rfl s hs]
   by_cases he2:s=p.aj[i].Name
   ·subst he2;rw [dT rfl,lQ,he,XZ,hb];rfl
   ·rw [dF he2];rfl
  have hset:(decide (stA B p.aj[i].Name=2)&&yh p B p.aj[i])=true→PS p (fun s=>bif DF p (i+1) s then (zo p B).es s else B.es s) (sG st' p.aj[i].Name ({ B.es p.aj[i].Name with state:=3 }:ah)):=fun hb =>
   (hr.set hn _).congr (hnext _ (by rw [XZ,hb];rfl))
  unfold lY
  simp only []
  rw [h.plan,bW,dT (by omega),lQ,jd hi,bS,hi',bS,qx (by omega),hany]
  by_cases h2:stA B p.aj[i].Name=2
  ·rw [dT h2] at hsame hset ⊢
   simp only [lQ,Bool.true_and] at hsame hset ⊢
   rw [PW hp hN h b,bS,gt0]
   unfold yh at hsame hset ⊢
   cases hla:(AZ p B p.aj[i]).isEmpty with
   | false =>
    rw [hla] at hset
    simp only [Bool.not_false,Bool.true_or,Bool.or_true,Bool.not_true,lT,lQ,bS] at hset ⊢
    refine ⟨_,rfl,rfl,?_,rfl⟩
    rw [hg];exact hset trivial
   | true =>
    rw [hla] at hset hsame
    simp only [Bool.not_false,Bool.false_or,Bool.not_true,lQ,hlk,bS,gt0] at hset hsame ⊢
    cases hu:(E8 B p.aj[i]).isEmpty with
    | false =>
     rw [hu] at hset
     refine ⟨_,rfl,rfl,?_,by simp⟩
     rw [hg];exact hset rfl
    | true =>
     rw [hu] at hsame
     exact ⟨_,rfl,rfl,hsame rfl,by simp⟩
  ·rw [dF h2] at hsame ⊢
   exact ⟨_,rfl,rfl,hsame rfl,by simp⟩
 ·obtain ⟨fl,s1,st'⟩:=s
  obtain ⟨rfl,hr,rfl⟩:=hs
  unfold lY
  simp only []
  rw [h.plan,bW,dF (by omega),lT]
  exact ⟨_,rfl,hr.congr fun s hs=>by rw [Lj,hs];rfl,by rw [List.take_length]⟩
theorem I5.exp {p:GPermitPlan} {A:AO} (b:I5 A):I5 (Bc p A):=⟨b.tm,fun s=>by
 rcases V7 (p:=p) (A:=A) (s:=s) with e | ⟨e,_⟩ <;> rw [e]
 ·exact b.st s
 ·decide,b.tt,b.pl⟩
theorem I5.sus {p:GPermitPlan} {A:AO} (b:I5 A):I5 (zo p A):=⟨b.tm,fun s=>by
 rcases MO (p:=p) (A:=A) (s:=s) with ⟨e,_⟩ | ⟨e,_⟩ <;> rw [e]
 ·exact b.st s
 ·decide,b.tt,b.pl⟩
theorem I5.settle {p:GPermitPlan} {A:AO} (b:I5 A):I5 (gZ p A):=b.exp.sus
theorem MR {N:Nat} {p:GPermitPlan} {A:AO} {g:af} {st:List (Str×ah)} {pK:List (Str×au)} {pe:List (Str×Str)} (hp:EP p) (ho:Ee p) (hN:1000000≤N) (h:RelB p A g pK) (hst:PS p A.es st) (b:I5 A):∃ st',mF N g st pK pe=some st'∧PS p (gZ p A).es st':=by
 unfold mF
 obtain ⟨s1,h1,r1⟩:=Z9 (pe:=pe) hp ho hN h hst b
 rw [h1,bS]
 have hE:RelB p (Bc p A) g pK:=⟨h.plan,h.now,h.PU,h.PV⟩
 have hS:RelB p (gZ p A) g pK:=⟨h.plan,h.now,h.PU,h.PV⟩
 obtain ⟨⟨f2,s2⟩,h2,r2,e2⟩:=UG (pe:=pe) hp ho hN hE r1 b.exp
 obtain ⟨⟨f3,s3⟩,h3,r3,e3⟩:=UG (pe:=pe) hp ho hN hS r2 b.settle
 have e3':f3=false:=by
  rw [show f3=_ from e3,Bool.eq_false_iff]
  intro hx
  rw [List.any_eq_true] at hx
  obtain ⟨x,hx,hb⟩:=hx
  rw [Bool.and_eq_true,decide_eq_true_eq] at hb
  rw [Dk ho hx hb.1] at hb
  cases hb.2
 subst e3'
 obtain ⟨M,rfl⟩:∃ M,N=M+3:=⟨N - 3,by omega⟩
 have step:∀ (st:List (Str×ah)) (o:Bool×List (Str×ah)),dU (lY (M+3) g pK pe) (M+3) (false,0,st)=some o→nM (M+3) g pK pe (true,st)=some (.inl o):=by
  intro st o ho
  unfold nM
  rw [lQ,ho];rfl
 have stop:∀ st:List (Str×ah),nM (M+3) g pK pe (false,st)=some (.inr st):=fun st=>rfl
 cases f2 with
 | false =>
  refine ⟨s2,?_,r2⟩
  rw [show M+3=(M+2)+1 from rfl]
  simp only [dU,step _ _ h2,stop];rfl
 | true =>
  refine ⟨s3,?_,r3.congr fun s hs=>?_⟩
  ·simp only [dU,step _ _ h2,step _ _ h3,stop];rfl
  ·show (bif mX p s&&decide (stA (gZ p A) s=2)&&yh p (gZ p A) (sH p s) then ({ (gZ p A).es s with state:=3 }:ah) else (gZ p A).es s)=_
   by_cases h2:stA (gZ p A) s=2
   ·obtain ⟨hm,hnm⟩:=Ap hs
    rw [Dk ho hm (by rw [hnm];exact h2),Bool.and_false];rfl
   ·rw [dF h2,Bool.and_false,Bool.false_and];rfl
end Go.KB
namespace Go.KB
set_option linter.unusedVariables false
theorem X8 {N:Nat} {l:List cu} {f:cu→Option Bool} {g:cu→Bool} (hf:∀ y,f y=some (g y)) (hl:l.length<1000000) (hN:1000000≤N):jl N l f=some (Il g l):=by
 unfold jl
 refine zf (fun i hi=>?_) ?_ (by omega)
 ·unfold iR
  rw [bW,dT (by omega),lQ,jd hi,bS,hf,bS,qx (by omega)]
 ·unfold iR
  rw [bW,dF (by omega),lT]
theorem ixI_ge {α:Type} {g:α→Bool} {l:List α}:aF .geq (Il g l) 0=l.any g:=by
 have:=FU (g:=g) (l:=l)
 rw [BA]
 cases h2:l.any g with
 | true=>rw [h2] at this;simp at this;rw [dT (by omega)]
 | false=>rw [h2] at this;simp at this;rw [dF (by omega)]
theorem UH {N:Nat} {p:GPermitPlan} {x y:aH} (hp:EP p) (hN:1000000≤N):wF N p x y=some (yg p x y):=by
 have hx:=hp.x
 unfold wF yg
 rw [rJ,Lp hp hN]
 cases decide (x.Name=y.Name) with
 | true=>rfl
 | false =>
  rw [lT,lT,bS]
  unfold jL
  rw [X8 (g:=fun e=>exE e (kY p x.Space y.Space) x.Kind y.Kind) (fun e=>by unfold uS exE;simp only [wK,iW]) (by omega) hN,bS,ixI_ge];rfl
theorem cloneS {N:Nat} {l:List dG} (h:l.length<1000):mV N l=some l:=by
 have hlim:lim ≥ 1000000:=by decide
 unfold mV;rw [Ah (by simp only [List.length_nil];omega)];rfl
theorem cloneP {N:Nat} {l:List aH} (h:l.length<1000):lJ N l=some l:=by
 have hlim:lim ≥ 1000000:=by decide
 unfold lJ;rw [Ah (by simp only [List.length_nil];omega)];rfl
theorem cloneE {N:Nat} {l:List cu} (h:l.length<1000):jJ N l=some l:=by
 have hlim:lim ≥ 1000000:=by decide
 unfold jJ;rw [Ah (by simp only [List.length_nil];omega)];rfl
theorem jJj {N:Nat} {l:List Str} (h:l.length<1000):iE N l=some l:=by
 have hlim:lim ≥ 1000000:=by decide
 unfold iE;rw [Ah (by simp only [List.length_nil];omega)];rfl
theorem UI {α:Type} {l:List α} {i:Nat} (h:i<l.length):l.set i l[i]=l:=List.set_getElem_self h
theorem X9 {N:Nat} {p:GPermitPlan} (hp:EP p) (hN:1000000≤N):yT N p=some p:=by
 have h1:=hp.s
 have h2:=hp.x
 have h3:=hp.m
 unfold yT
 rw [cloneS h1,cloneE h2,cloneP h3]
 simp only [bS]
 have e2:dU (qR N p.bM) N (0,p.bM)=some p.bM:=CJ (f:=qR N p.bM) (n:=p.bM.length) (fun i=>((i:Int),p.bM)) p.bM (fun i hi=>by
  unfold qR
  simp only []
  rw [bW,dT (by omega),lQ,jd hi,bS,jJj (hp.n _ (List.getElem_mem hi)),bS,bS,qx (by omega),Int.toNat_natCast,UI hi]) (by
  unfold qR
  simp only []
  rw [bW,dF (by omega),lT]) (by omega)
 have e1:dU (qU N p.aj) N (0,p.aj)=some p.aj:=CJ (f:=qU N p.aj) (n:=p.aj.length) (fun i=>((i:Int),p.aj)) p.aj (fun i hi=>by
  unfold qU
  simp only []
  rw [bW,dT (by omega),lQ,jd hi,bS,jJj (hp.l _ (List.getElem_mem hi)),bS,bS,qx (by omega),Int.toNat_natCast,UI hi]) (by
  unfold qU
  simp only []
  rw [bW,dF (by omega),lT]) (by omega)
 rw [e2,e1];rfl
def MQ (p:GPermitPlan):AO:=⟨0,fun s=>bif mX p s then ⟨0,[],(sH p s).To⟩ else ⟨0,[],0⟩,fun _=>none,[],[]⟩
theorem jQc (p:GPermitPlan):I5 (MQ p):=⟨⟨by show (0:Int)≤0;omega,by show (0:Int)≤1000000;omega⟩,fun s=>by unfold stA MQ;simp only [];cases mX p s <;> simp,(fun s t e=>by cases e),by show 0<1000000;omega⟩
theorem jJq {N:Nat} {p:GPermitPlan} (hp:EP p) (ho:Ee p) (hN:1000000≤N):∃ st,dU (qE N p) N (0,([]:List (Str×ah)))=some st∧PS p (MQ p).es st:=by
 have hm:=hp.m
 have key:∃ st,dU (qE N p) N (0,([]:List (Str×ah)))=some st∧(∀ n,DF p p.aj.length n=true→jr (⟨0,[],0⟩:ah) st n=⟨0,[],(sH p n).To⟩)∧∀ n,pX st n=DF p p.aj.length n:=by
  refine Lm (N:=N) (n:=p.aj.length) (f:=qE N p) (s0:=(0,([]:List (Str×ah)))) (fun i s=>s.1=(i:Int)∧(∀ n,DF p i n=true→jr (⟨0,[],0⟩:ah) s.2 n=⟨0,[],(sH p n).To⟩)∧∀ n,pX s.2 n=DF p i n) (fun st=>(∀ n,DF p p.aj.length n=true→jr (⟨0,[],0⟩:ah) st n=⟨0,[],(sH p n).To⟩)∧∀ n,pX st n=DF p p.aj.length n) ⟨rfl,fun n h=>by unfold DF at h;simp at h,fun n=>by unfold DF;simp [pX]⟩ (fun i s hi hs=>?_) (fun s hs=>?_) (by omega)
  ·obtain ⟨s1,st⟩:=s
   obtain ⟨rfl,h1,h2⟩:=hs
   simp only [] at h1 h2
   refine ⟨_,by unfold qE;simp only [];rw [bW,dT (by omega),lQ,jd hi,bS,qx (by omega)],rfl,fun n hn=>?_,fun n=>?_⟩
   ·simp only []
    rw [GI]
    by_cases he:n=p.aj[i].Name
    ·rw [if_pos he,he,ho.FT (List.getElem_mem hi)]
    ·rw [if_neg he]
     rw [I8 hi,dF (fun x=>he x.symm),Bool.or_false] at hn
     exact h1 n hn
   ·simp only []
    rw [Jz,h2,I8 hi,Bool.or_comm]
    congr 1
    exact decide_eq_decide.2 ⟨Eq.symm,Eq.symm⟩
  ·obtain ⟨s1,st⟩:=s
   obtain ⟨rfl,h1,h2⟩:=hs
   refine ⟨st,?_,h1,h2⟩
   unfold qE
   simp only []
   rw [bW,dF (by omega),lT]
 obtain ⟨st,h1,h2,h3⟩:=key
 exact ⟨st,h1,fun s hs=>by rw [h2 s (by rw [Lj];exact hs)];show _=(bif mX p s then _ else _);rw [hs];rfl,fun s=>by rw [h3,Lj]⟩
theorem New_eq {N:Nat} {p:GPermitPlan} (hp:EP p) (ho:uG p=0) (hN:1000000≤N):∃ st,sD N p=some (some ((⟨p,0,[]⟩:af),st,[],[]),0)∧RelA p (FQ p) (⟨p,0,[]⟩:af) st [] []:=by
 have hk:=okP ho
 unfold sD
 rw [Lr hp hN,ho,bS,qN,dT rfl,Bool.not_true,lT,X9 hp hN,bS]
 obtain ⟨s1,h1,r1⟩:=jJq hp hk hN
 rw [h1,bS]
 have hb:RelB p (MQ p) (⟨p,0,[]⟩:af) []:=⟨rfl,rfl,fun s=>rfl,fun s t e=>by cases e⟩
 obtain ⟨s2,h2,r2⟩:=MR (pe:=([]:List (Str×Str))) hp hk hN hb r1 (jQc p)
 rw [h2,bS]
 exact ⟨s2,rfl,⟨rfl,rfl,fun s=>rfl,fun s t e=>by cases e⟩,r2,List.Perm.refl _,rfl⟩
theorem jQn {N:Nat} {p:GPermitPlan} (hp:EP p) (ho:uG p≠0) (hN:1000000≤N):sD N p=some (none,uG p):=by
 unfold sD
 rw [Lr hp hN,bS,qN,dF ho];rfl
end Go.KB
