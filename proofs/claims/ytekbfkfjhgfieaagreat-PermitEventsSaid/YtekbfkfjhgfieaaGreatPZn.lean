/- Plain laws of chapter 7: what stays true in an office. Plain laws of chapter 7: the program's office settles. Plain laws of chapter 7: which permits exclude each other; the new office. No condition. -/
import Derived.Test.YtekbfkfjhgfieaaGreatPZm
namespace Go.KB
set_option linter.unusedVariables false
theorem bifD {α:Type} {q:Prop} [Decidable q] {a b:α}:(bif decide q then a else b)=if q then a else b:=by
 by_cases h:q
 ·rw [dT h,if_pos h];rfl
 ·rw [dF h,if_neg h];rfl
structure WA (p:GPermitPlan) (d:List GEvent) (A:AO):Prop where
 st:∀ s,0≤stA A s∧stA A s≤6
 fr:∀ x ∈ p.aj,stA A x.Name=2→x.From≤A.now
 ex:∀ x ∈ p.aj,∀ y ∈ p.aj,stA A x.Name=2→stA A y.Name=2→wX p x y=false
 tm:0≤A.now∧A.now≤1000000
 to:∀ x ∈ p.aj,(A.es x.Name).xX=x.To∨∃ v ∈ d,v.Op=11∧v.Name=x.Name∧v.To=(A.es x.Name).xX
 pp:A.pp.Pairwise (fun a b=>a.1<b.1)
 tt:∀ s t,A.ts s=some t→0≤t.at_∧t.at_≤1000000
 pl:A.pp.length≤d.length
structure SQ (p:GPermitPlan) (A:AO):Prop where
 w:WA p A.done A
 un:∀ x ∈ p.aj,stA A x.Name=2→wY p A x=false
 li:∀ x ∈ p.aj,stA A x.Name≤3→A.now<(A.es x.Name).xX
theorem WA.le {p:GPermitPlan} {d:List GEvent} {A A':AO} (h:WA p d A) (hs:∀ s,stA A' s=stA A s∨(0≤stA A' s∧stA A' s≤6∧stA A' s≠2)) (ht:∀ s,(A'.es s).xX=(A.es s).xX) (hn:A.now≤A'.now∧A'.now≤1000000) (hp:A'.pp.Pairwise (fun a b=>a.1<b.1)) (hq:∀ s t,A'.ts s=some t→A.ts s=some t∨(0≤t.at_∧t.at_≤1000000)) (hl:A'.pp.length≤d.length):WA p d A':=by
 have h2:∀ s,stA A' s=2→stA A s=2:=fun s e=>by
  rcases hs s with h1 | h1
  ·rw [← h1];exact e
  ·exact absurd e h1.2.2
 have htm:=h.tm
 refine ⟨fun s=>?_,fun x hx e=>?_,fun x hx y hy e f=>h.ex x hx y hy (h2 _ e) (h2 _ f),⟨by omega,hn.2⟩,fun x hx=>?_,hp,fun s t e=>(hq s t e).elim (h.tt s t) id,hl⟩
 ·rcases hs s with h1 | h1
  ·rw [h1];exact h.st s
  ·exact ⟨h1.1,h1.2.1⟩
 ·have:=h.fr x hx (h2 _ e);omega
 ·rw [ht];exact h.to x hx
theorem WA.mono {p:GPermitPlan} {d d':List GEvent} {A:AO} (h:WA p d A) (hd:∀ v ∈ d,v ∈ d') (hl:d.length≤d'.length):WA p d' A :=
 ⟨h.st,h.fr,h.ex,h.tm,fun x hx=>(h.to x hx).imp id fun ⟨v,hv,e⟩=>⟨v,hd v hv,e⟩,h.pp,h.tt,by have:=h.pl;omega⟩
theorem WA.snoc {p:GPermitPlan} {d:List GEvent} {A:AO} {x:GEvent} (h:WA p d A):WA p (d ++ [x]) A:=h.mono (fun v hv=>List.mem_append_left _ hv) (by simp)
theorem up_es {A:AO} {n s:Str} {e:ah}:(UM A n e).es s=if s=n then e else A.es s:=bifD
theorem PO {A:AO} {n s:Str} {e:ah}:stA (UM A n e) s=if s=n then e.state else stA A s:=by
 unfold stA;rw [up_es];split <;> rfl
theorem WA.up {p:GPermitPlan} {d:List GEvent} {A:AO} {n:Str} {e:ah} (h:WA p d A) (he:0≤e.state∧e.state≤6) (h2:e.state=2→∀ x ∈ p.aj,x.Name=n→x.From≤A.now∧∀ y ∈ p.aj,stA A y.Name=2→wX p x y=false) (ht:e.xX=(A.es n).xX∨∃ v ∈ d,v.Op=11∧v.Name=n∧v.To=e.xX):WA p d (UM A n e):=by
 refine ⟨fun s=>?_,fun x hx=>?_,fun x hx y hy=>?_,h.tm,fun x hx=>?_,h.pp,h.tt,h.pl⟩
 ·rw [PO];split
  ·exact he
  ·exact h.st s
 ·rw [PO];split
  ·rename_i hn;intro e2;exact (h2 e2 x hx hn).1
  ·intro e2;exact h.fr x hx e2
 ·rw [PO,PO]
  split
  ·rename_i hn
   split
   ·rename_i hm;intro _ _;unfold wX;rw [dT (hn.trans hm.symm)];rfl
   ·intro e2 f2;exact (h2 e2 x hx hn).2 y hy f2
  ·split
   ·rename_i hm;intro e2 f2;rw [Jk];exact (h2 f2 y hy hm).2 x hx e2
   ·exact h.ex x hx y hy
 ·rw [up_es]
  split
  ·rename_i hn
   rcases ht with ht | ⟨v,hv,a,b,c⟩
   ·rw [ht,← hn];exact h.to x hx
   ·exact .inr ⟨v,hv,a,b.trans hn.symm,c⟩
  ·exact h.to x hx
theorem UU {p:GPermitPlan} {A:AO} {s:Str}:stA (zX p A) s=stA A s∨(stA (zX p A) s=6∧stA A s≤3∧(A.es s).xX≤A.now):=by
 unfold stA zX zY
 simp only []
 cases lY p s with
 | false=>exact .inl rfl
 | true =>
  rw [cond_true]
  by_cases h:(A.es s).state≤3
  ·rw [dT h]
   by_cases h1:(A.es s).xX≤A.now
   ·rw [dT h1];exact .inr ⟨rfl,h,h1⟩
   ·rw [dF h1];exact .inl rfl
  ·rw [dF h];exact .inl rfl
theorem YF {p:GPermitPlan} {A:AO} {s:Str}:((zX p A).es s).xX=(A.es s).xX:=by
 unfold zX zY
 simp only []
 cases lY p s with
 | false=>rfl
 | true=>rw [cond_true];cases (decide ((A.es s).state≤3)&&decide ((A.es s).xX≤A.now)) <;> rfl
theorem exp_li {p:GPermitPlan} {A:AO} {s:Str} (hs:lY p s=true) (h:stA (zX p A) s≤3):A.now<(A.es s).xX:=by
 unfold stA zX zY at h
 simp only [] at h
 rw [hs,cond_true] at h
 by_cases h3:(A.es s).state≤3
 ·rw [dT h3] at h
  by_cases h1:(A.es s).xX≤A.now
  ·rw [dT h1] at h;simp at h
  ·omega
 ·rw [dF h3] at h;simp at h;omega
theorem KW {p:GPermitPlan} {A:AO} {s:Str}:(stA (yG p A) s=stA A s∧¬ (lY p s=true∧stA A s=2∧wY p A (rF p s)=true))∨(stA (yG p A) s=3∧stA A s=2∧wY p A (rF p s)=true):=by
 have e:stA (yG p A) s=(bif lY p s&&decide (stA A s=2)&&wY p A (rF p s) then ({ A.es s with state:=3 }:ah) else A.es s).state:=rfl
 rw [e]
 cases h1:lY p s with
 | false=>exact .inl ⟨rfl,fun h=>by cases h.1⟩
 | true =>
  by_cases h2:stA A s=2
  ·rw [dT h2]
   cases h3:wY p A (rF p s) with
   | false=>exact .inl ⟨rfl,fun h=>by cases h.2.2⟩
   | true=>exact .inr ⟨rfl,h2,rfl⟩
  ·rw [dF h2];exact .inl ⟨rfl,fun h=>h2 h.2.1⟩
theorem YD {p:GPermitPlan} {A:AO} {s:Str}:((yG p A).es s).xX=(A.es s).xX:=by
 unfold yG
 simp only []
 cases (lY p s&&decide (stA A s=2)&&wY p A (rF p s)) <;> rfl
theorem Ih {p:GPermitPlan} {A:AO} {s:Str}:stA (gQ p A) s=stA A s∨((stA (gQ p A) s=6∨stA (gQ p A) s=3)∧stA A s≤3):=by
 unfold gQ
 rcases KW (p:=p) (A:=zX p A) (s:=s) with ⟨h1,_⟩ | ⟨h1,h2,_⟩
 ·rw [h1];rcases UU (p:=p) (A:=A) (s:=s) with h | h
  ·exact .inl h
  ·exact .inr ⟨.inl h.1,h.2.1⟩
 ·refine .inr ⟨.inr h1,?_⟩
  rcases UU (p:=p) (A:=A) (s:=s) with h | h
  ·rw [← h,h2];decide
  ·exact h.2.1
theorem Ig {p:GPermitPlan} {A:AO} {s:Str}:((gQ p A).es s).xX=(A.es s).xX:=YD.trans YF
theorem WA.settle {p:GPermitPlan} {d:List GEvent} {A:AO} (h:WA p d A):WA p d (gQ p A) :=
 h.le (fun s=>(Ih (p:=p) (A:=A) (s:=s)).imp id fun ⟨h1,_⟩=>by rcases h1 with h1 | h1 <;> rw [h1] <;> decide) (fun s=>Ig) ⟨Int.le_refl _,h.tm.2⟩ h.pp (fun s t e=>.inl e) h.pl
theorem S9 {p:GPermitPlan} (hp:DN p) {A:AO} {x:aG} (hx:x ∈ p.aj) (hk:x.Kind=5):wY p A x=false:=by
 have h1:G7 p x=[]:=by unfold G7 zQ;rw [hk];rfl
 have h2:x.Locks=[]:=by
  cases hl:x.Locks with
  | nil=>rfl
  | cons l r=>exact absurd hk (hp.lk x hx l (by rw [hl];exact List.mem_cons_self)).2.2
 unfold wY zS DZ
 rw [h1,h2];rfl
theorem jJj {A:AO} {x:aG}:(DZ A x).isEmpty=true↔∀ l ∈ x.Locks,stA A l=2:=by
 unfold DZ
 rw [List.isEmpty_iff,List.filter_eq_nil_iff]
 constructor
 ·intro h l hl;have:=h l hl;simpa using this
 ·intro h l hl;rw [h l hl];decide
theorem BI {p:GPermitPlan} (hp:DN p) {A:AO} {x:aG} (hx:x ∈ p.aj) (h2:stA (gQ p A) x.Name=2):wY p (gQ p A) x=false:=by
 unfold gQ at h2 ⊢
 have hh:lY p x.Name=true:=yT.2 ⟨x,hx,rfl⟩
 rcases KW (p:=p) (A:=zX p A) (s:=x.Name) with ⟨h,hn⟩ | ⟨h,_⟩
 ·rw [h] at h2
  have hb:wY p (zX p A) x=false:=by
   rw [hp.Et hx] at hn
   cases hb:wY p (zX p A) x with
   | false=>rfl
   | true=>exact absurd ⟨hh,h2,hb⟩ hn
  unfold wY at hb ⊢
  rw [Bool.or_eq_false_iff] at hb ⊢
  refine ⟨hb.1,?_⟩
  have hb2:=hb.2
  rw [Bool.not_eq_false',jJj] at hb2 ⊢
  intro l hl
  obtain ⟨h5,h6,_⟩:=hp.lk x hx l hl
  rcases KW (p:=p) (A:=zX p A) (s:=l) with ⟨h7,_⟩ | ⟨_,_,h7⟩
  ·rw [h7];exact hb2 l hl
  ·rw [S9 hp (zC h5).1 h6] at h7;cases h7
 ·rw [h] at h2;cases h2
theorem WL {p:GPermitPlan} {A:AO} {s:Str} (hs:lY p s=true) (h:stA (gQ p A) s≤3):A.now<((gQ p A).es s).xX:=by
 rw [Ig]
 unfold gQ at h
 refine exp_li hs ?_
 rcases KW (p:=p) (A:=zX p A) (s:=s) with ⟨h1,_⟩ | ⟨h1,h2,_⟩
 ·rw [h1] at h;exact h
 ·rw [h2];decide
theorem DK {p:GPermitPlan} (hp:DN p) {d:List GEvent} {A:AO} (h:WA p d A):SQ p { gQ p A with done:=d } :=
 ⟨⟨h.settle.st,h.settle.fr,h.settle.ex,h.settle.tm,h.settle.to,h.settle.pp,h.settle.tt,h.settle.pl⟩,fun x hx e=>BI hp (A:=A) hx e,fun x hx e=>WL (A:=A) (yT.2 ⟨x,hx,rfl⟩) e⟩
theorem jJq {p:GPermitPlan} {A:AO} {x:aG} (h:EU p A x=[]):x.From≤A.now∧∀ y ∈ p.aj,stA A y.Name=2→wX p y x=false:=by
 unfold EU at h
 obtain ⟨h1,h2⟩:=List.append_eq_nil_iff.1 h
 constructor
 ·by_cases hf : A.now < x.From
  ·rw [dT hf] at h1;cases h1
  ·omega
 ·intro y hy e
  rw [List.filter_eq_nil_iff] at h2
  have:=h2 (⟨20,mZ p A (fun y=>wX p y x)⟩:bM) (by simp)
  have h3:mZ p A (fun y=>wX p y x)=[]:=by simpa using this
  unfold mZ at h3
  rw [List.map_eq_nil_iff,List.filter_eq_nil_iff] at h3
  have:=h3 y hy
  rw [dT e] at this
  simpa using this
theorem QJ {q:Str×Str} {n s:Str}:∀ {l:List (Str×Str)},q ∈ IE l n s→q=(n,s)∨q ∈ l
 | [],h=>by simpa [IE] using h
 | a :: r,h=>by
  unfold IE at h
  cases hd:decide (a.1<n) with
  | false=>rw [hd,cond_false] at h;simpa using h
  | true =>
   rw [hd,cond_true] at h
   rcases List.mem_cons.1 h with rfl | h
   ·exact .inr List.mem_cons_self
   ·exact (QJ h).imp id fun h=>List.mem_cons_of_mem _ h
theorem VJ {n s:Str}:∀ {l:List (Str×Str)},(IE l n s).length=l.length+1
 | []=>rfl
 | a :: r=>by
  unfold IE
  cases decide (a.1<n) with
  | true=>rw [cond_true,List.length_cons,VJ,List.length_cons]
  | false=>rfl
theorem Oo {n s : Str} : ∀ {l : List (Str × Str)}, (l.any fun q => decide (q.1 = n)) = false → l.Pairwise (fun a b => a.1 < b.1) → (IE l n s).Pairwise (fun a b => a.1 < b.1)
  | [],_,_=>by simp [IE]
  | a :: r,hn,h=>by
    rw [List.any_cons,Bool.or_eq_false_iff,decide_eq_false_iff_not] at hn
    rw [List.pairwise_cons] at h
    unfold IE
    cases hd:decide (a.1<n) with
    | false =>
      rw [cond_false,List.pairwise_cons]
      rw [decide_eq_false_iff_not] at hd
      have hlt:n<a.1:=by
        rcases List.le_iff_lt_or_eq.1 (show n≤a.1 from hd) with h1 | h1
        · exact h1
        · exact absurd h1.symm hn.1
      refine ⟨fun q hq=>?_,List.pairwise_cons.2 h⟩
      rcases List.mem_cons.1 hq with rfl | hq
      · exact hlt
      · exact List.lt_trans hlt (h.1 q hq)
    | true =>
      rw [decide_eq_true_eq] at hd
      rw [cond_true,List.pairwise_cons]
      refine ⟨fun q hq=>?_,Oo hn.2 h.2⟩
      rcases QJ hq with rfl | hq
      · exact hd
      · exact h.1 q hq
def StepA (p:GPermitPlan) (A:AO) (x:GEvent) (r:AO×List Str×Int):Prop :=
 (r.2.2≠0→r.1=A)∧(∀ d,WA p d A→WA p (d ++ [x]) r.1)∧r.1.now=A.now∧r.1.done=A.done ∧
 (∀ s,stA A s ≥ 4→stA r.1 s=stA A s)∧(∀ s,stA r.1 s=2→stA A s≠2→(x.Op=2∨x.Op=4)∧x.Name=s∧r.2.2=0)
theorem qN {p:GPermitPlan} {A:AO} {x:GEvent} {e:Int} {l:List Str}:StepA p A x (vI A e l) :=
 ⟨fun _=>rfl,fun d h=>h.snoc,rfl,rfl,fun _ _=>rfl,fun s h1 h2=>absurd h1 h2⟩
theorem step_up {p:GPermitPlan} {A:AO} {x:GEvent} {n:Str} {e:ah} (h4:stA A n≤3) (he:0≤e.state∧e.state≤6) (h2:∀ d,WA p d A→e.state=2→∀ x ∈ p.aj,x.Name=n→x.From≤A.now∧∀ y ∈ p.aj,stA A y.Name=2→wX p x y=false) (ht:e.xX=(A.es n).xX∨(x.Op=11∧x.Name=n∧x.To=e.xX)) (ho:e.state=2→stA A n≠2→(x.Op=2∨x.Op=4)∧x.Name=n):StepA p A x (Ap (UM A n e)):=by
 refine ⟨fun h=>absurd rfl h,fun d h=>?_,rfl,rfl,fun s hs=>?_,fun s h1 hne=>?_⟩
 ·exact h.snoc.up he (fun e2=>h2 d h e2) (ht.imp id fun ⟨a,b,c⟩=>⟨x,List.mem_append_right _ (List.mem_singleton_self _),a,b,c⟩)
 ·show stA (UM A n e) s=_
  rw [PO]
  split
  ·rename_i h;subst h;omega
  ·rfl
 ·have h1':stA (UM A n e) s=2:=h1
  rw [PO] at h1'
  split at h1'
  ·rename_i h;subst h;exact ⟨(ho h1' hne).1,(ho h1' hne).2,rfl⟩
  ·exact absurd h1' hne
theorem QL {p:GPermitPlan} {A:AO} {x:GEvent} {n:Str} {k:Int} (h4:stA A n≤3) (hk:0≤k∧k≤6) (h2:k≠2):StepA p A x (Ap (OH A n k)) :=
 step_up h4 hk (fun d _ e=>absurd e h2) (.inl rfl) (fun e=>absurd e h2)
theorem Ii {p:GPermitPlan} {A A':AO} {x:GEvent} (he:A'.es=A.es) (hn:A'.now=A.now) (hd:A'.done=A.done) (hp:A.pp.Pairwise (fun a b=>a.1<b.1)→A'.pp.Pairwise (fun a b=>a.1<b.1)) (hq:0≤A.now∧A.now≤1000000→∀ s t,A'.ts s=some t→A.ts s=some t∨(0≤t.at_∧t.at_≤1000000)) (hl:A'.pp.length≤A.pp.length+1):StepA p A x (Ap A'):=by
 have hs:∀ s,stA A' s=stA A s:=fun s=>by unfold stA;rw [he]
 refine ⟨fun h=>absurd rfl h,fun d h=>?_,hn,hd,fun s _=>hs s,fun s h1 h2=>absurd ((hs s).symm.trans h1) h2⟩
 exact h.snoc.le (fun s=>.inl (hs s)) (fun s=>by show (A'.es s).xX=_;rw [he]) ⟨by show A.now≤A'.now;omega,by have:=h.tm;show A'.now≤_;omega⟩ (hp h.pp) (hq h.tm) (by have:=h.pl;rw [List.length_append];simp only [List.length_singleton];show A'.pp.length≤_;omega)
theorem Oq {p:GPermitPlan} (hp:DN p) {A:AO} {x:GEvent} (ho:x.Op=2∨x.Op=4) (h4:stA A x.Name≤3) (hh:lY p x.Name=true):StepA p A x (zx p A x):=by
 unfold zx
 cases lm x.Person with
 | false=>exact qN
 | true =>
  cases decide (x.Person=(A.es x.Name).yY) with
  | true=>exact qN
  | false =>
   simp only [Bool.not_true,cond_false]
   cases hw:EU p A (rF p x.Name) with
   | cons r l=>exact qN
   | nil =>
    refine step_up h4 (by simp) (fun d hd _ y hy hn=>?_) (.inl rfl) (fun _ _=>⟨ho,rfl⟩)
    have hy2:rF p x.Name=y:=by rw [← hn];exact hp.Et hy
    rw [hy2] at hw
    obtain ⟨h1,h2⟩:=jJq hw
    exact ⟨h1,fun z hz e=>by rw [Jk];exact h2 z hz e⟩
theorem JP {p:GPermitPlan} (hp:DN p) {A:AO} {x:GEvent} (h0:0≤x.Op) (h12:x.Op<12):StepA p A x (vX p A x):=by
  have hop:x.Op=0∨x.Op=1∨x.Op=2∨x.Op=3∨x.Op=4∨x.Op=5∨x.Op=6∨x.Op=7∨x.Op=8∨x.Op=9∨x.Op=10∨x.Op=11:=by omega
  have acts:∀ {l:List Int} {R:AO×List Str×Int},(∀ k ∈ l,k≤3)→(lY p x.Name=true→stA A x.Name ∈ l→stA A x.Name≤3→StepA p A x R)→StepA p A x (bif !lY p x.Name then vI A 6 [] else bif !l.contains (stA A x.Name) then vI A 18 [] else R):=by
    intro l R hl hR
    cases hh:lY p x.Name with
    | false=>exact qN
    | true =>
      cases hc:l.contains (stA A x.Name) with
      | false=>exact qN
      | true =>
        have hm:stA A x.Name ∈ l:=by simpa using hc
        exact hR hh hm (hl _ hm)
  unfold vX wH vH
  rcases hop with h | h | h | h | h | h | h | h | h | h | h | h <;> simp only [h,if_true,if_false,Int.reduceEq]
  · exact Ii rfl rfl rfl id (fun _ s t e=>.inl e) (Nat.le_succ _)
  · refine acts (by decide) fun hh hm h4 => ?_
    unfold BJ
    cases lm x.Person with
    | false=>exact qN
    | true=>exact step_up h4 (by simp) (fun _ _ e=>by cases e) (.inl rfl) (fun e=>by cases e)
  · exact acts (by decide) fun hh hm h4=>Oq hp (.inl h) h4 hh
  · exact acts (by decide) fun hh hm h4=>QL h4 (by decide) (by decide)
  · exact acts (by decide) fun hh hm h4=>Oq hp (.inr h) h4 hh
  · refine acts (by decide) fun hh hm h4 => ?_
    unfold Aq
    simp only []
    cases (decide ((rF p x.Name).Kind=5) && !(mZ p A (fun z=>DR z.Locks (rF p x.Name).Name)).isEmpty) with
    | true=>exact qN
    | false =>
      rw [cond_false]
      cases (decide ((rF p x.Name).Kind=1)&&decide (stA A (rF p x.Name).Name=2)&&(yx p (rF p x.Name).Space).dm&&(mZ p A (fun z=>decide (z.Kind=1)&&decide (z.Space=(rF p x.Name).Space) && !decide (z.Name=(rF p x.Name).Name))).isEmpty && !(yg A (fun s=>decide (s=(rF p x.Name).Space))).isEmpty) with
      | true=>exact qN
      | false=>exact QL h4 (by decide) (by decide)
  · exact acts (by decide) fun hh hm h4=>QL h4 (by decide) (by decide)
  · unfold SI
    cases vW p x.Space with
    | false=>exact qN
    | true =>
      cases (decide (x.nG<0)||decide (1000<x.nG)||decide (x.EY<0)||decide (1000<x.EY)) with
      | true=>exact qN
      | false =>
        refine Ii rfl rfl rfl id (fun hn s t e=>?_) (Nat.le_succ _)
        simp only [] at e
        cases hd:decide (s=x.Space) with
        | true=>rw [hd,cond_true] at e;cases e;exact .inr hn
        | false=>rw [hd,cond_false] at e;exact .inl e
  · unfold Hl
    cases lm x.Person with
    | false=>exact qN
    | true =>
      cases vW p x.Space with
      | false=>exact qN
      | true =>
        cases hi:zl A x.Person with
        | true=>exact qN
        | false =>
          simp only [Bool.not_true,cond_false]
          cases ((yx p x.Space).dm && !wG p A x.Space) with
          | true=>exact qN
          | false =>
            rw [cond_false]
            cases (!(mZ p A (fun y=>decide (y.Kind=3)&&decide (kJ p y.Space x.Space≤1))).isEmpty) with
            | true=>exact qN
            | false=>exact Ii rfl rfl rfl (fun hpp=>Oo hi hpp) (fun _ s t e=>.inl e) (Nat.le_of_eq VJ)
  · unfold Hg
    cases lm x.Person with
    | false=>exact qN
    | true =>
      cases zl A x.Person with
      | false=>exact qN
      | true=>exact Ii rfl rfl rfl (fun hpp=>hpp.filter _) (fun _ s t e=>.inl e) (Nat.le_succ_of_le (List.length_filter_le _ _))
  · unfold Hf
    cases vW p x.Space with
    | false=>exact qN
    | true =>
      simp only [Bool.not_true,cond_false]
      have hs:∀ s,stA { A with es:=fun s=>bif lY p s&&decide (stA A s=2)&&(!decide ((rF p s).Kind=5)&&decide (kJ p (rF p s).Space x.Space≤1)) then { A.es s with state:=3 } else A.es s } s=stA A s∨(stA { A with es:=fun s=>bif lY p s&&decide (stA A s=2)&&(!decide ((rF p s).Kind=5)&&decide (kJ p (rF p s).Space x.Space≤1)) then { A.es s with state:=3 } else A.es s } s=3∧stA A s=2):=by
        intro s
        unfold stA
        simp only []
        cases lY p s with
        | false=>exact .inl rfl
        | true =>
          by_cases h2:(A.es s).state=2
          · rw [dT h2]
            cases (!decide ((rF p s).Kind=5)&&decide (kJ p (rF p s).Space x.Space≤1)) with
            | false=>exact .inl rfl
            | true=>exact .inr ⟨rfl,h2⟩
          · rw [dF h2];exact .inl rfl
      refine ⟨fun h=>absurd rfl h,fun d hd=>?_,rfl,rfl,fun s h4=>?_,fun s h1 h2=>?_⟩
      · refine hd.snoc.le (fun s => (hs s).imp id fun h => by show _ ∧ _ ∧ _; rw [show stA (Ap _).1 s = 3 from h.1]; decide) (fun s => ?_) ⟨Int.le_refl _, hd.tm.2⟩ hd.pp (fun s t e => .inl e) hd.snoc.pl
        show (bif _ then ({ A.es s with state:=3 }:ah) else A.es s).xX=_
        cases (lY p s&&decide (stA A s=2)&&(!decide ((rF p s).Kind=5)&&decide (kJ p (rF p s).Space x.Space≤1))) <;> rfl
      · rcases hs s with h | h
        · exact h
        · omega
      · rcases hs s with h | h
        · exact absurd (h.symm.trans h1) h2
        · exact absurd h.2 h2
  · refine acts (by decide) fun hh hm h4 => ?_
    unfold Ed
    cases lm x.Person with
    | false=>exact qN
    | true =>
      cases (decide (x.To≤(A.es x.Name).xX)||decide (1000000<x.To)) with
      | true=>exact qN
      | false =>
        have hm':stA A x.Name=1∨stA A x.Name=2∨stA A x.Name=3:=by simpa using hm
        refine step_up h4 ⟨?_,?_⟩ (fun d hd e y hy hn=>?_) (.inr ⟨h,rfl,rfl⟩) (fun e hne=>absurd e hne)
        · show 0≤stA A x.Name;omega
        · show stA A x.Name≤6;omega
        · have e':stA A x.Name=2:=e
          rw [← hn] at e'
          exact ⟨hd.fr y hy e',fun z hz e2=>hd.ex y hy z hz e' e2⟩
theorem inv_do {p:GPermitPlan} (hp:DN p) {A:AO} {x:GEvent} (h:SQ p A):SQ p (LG p A x).1∧A.now≤(LG p A x).1.now∧(∀ s,stA A s ≥ 4→stA (LG p A x).1 s=stA A s)∧(∀ s,stA (LG p A x).1 s=2→stA A s≠2→(x.Op=2∨x.Op=4)∧x.Name=s∧(LG p A x).2.2=0):=by
  unfold LG
  by_cases hr:x.Op<0∨12≤x.Op∨x.At<0∨1000000<x.At
  · have hr' : (decide (x.Op < 0) || decide (12 ≤ x.Op) || decide (x.At < 0) || decide (1000000 < x.At)) = true := by simpa [or_assoc] using hr
    rw [hr']
    exact ⟨h,Int.le_refl _,fun _ _=>rfl,fun s h1 h2=>absurd h1 h2⟩
  · have hr' : (decide (x.Op < 0) || decide (12 ≤ x.Op) || decide (x.At < 0) || decide (1000000 < x.At)) = false := by simp; omega
    rw [hr',cond_false]
    by_cases ho:x.At<A.now
    · rw [dT ho];exact ⟨h,Int.le_refl _,fun _ _=>rfl,fun s h1 h2=>absurd h1 h2⟩
    rw [dF ho,cond_false]
    have hw:WA p A.done { A with now:=x.At }:=h.w.le (fun s=>.inl rfl) (fun _=>rfl) ⟨by show A.now≤x.At;omega,by show x.At≤1000000;omega⟩ h.w.pp (fun s t e=>.inl e) h.w.pl
    have hi:=DK hp hw
    have hset:∀ s,stA (gQ p { A with now:=x.At }) s=stA A s∨((stA (gQ p { A with now:=x.At }) s=6∨stA (gQ p { A with now:=x.At }) s=3)∧stA A s≤3):=fun s=>Ih (p:=p) (A:={ A with now:=x.At }) (s:=s)
    obtain ⟨s1,s2,s3,s4,s5,s6⟩:=JP hp (A:=gQ p { A with now:=x.At }) (x:=x) (by omega) (by omega)
    generalize hR:vX p (gQ p { A with now:=x.At }) x=R at s1 s2 s3 s4 s5 s6
    simp only []
    by_cases h0:R.2.2=0
    · rw [dT h0,cond_true]
      have hw2:=s2 _ hi.w
      refine ⟨DK hp (d:=A.done ++ [x]) hw2,?_,fun s hs=>?_,fun s h1 h2=>?_⟩
      · show A.now≤R.1.now
        rw [s3];show A.now≤x.At;omega
      · show stA (gQ p R.1) s=stA A s
        have e1:stA (gQ p { A with now:=x.At }) s=stA A s:=by
          rcases hset s with e | ⟨_,e⟩
          · exact e
          · omega
        have e2:=s5 s (by omega)
        rcases Ih (p:=p) (A:=R.1) (s:=s) with e | ⟨_,e⟩ <;> omega
      · have h1':stA (gQ p R.1) s=2:=h1
        have e2:stA R.1 s=2:=by
          rcases Ih (p:=p) (A:=R.1) (s:=s) with e | ⟨e,_⟩ <;> omega
        have e3:stA (gQ p { A with now:=x.At }) s≠2:=by
          rcases hset s with e | ⟨e,_⟩ <;> omega
        obtain ⟨a,b,c⟩:=s6 s e2 e3
        exact ⟨a,b,rfl⟩
    · rw [dF h0,cond_false]
      have hB:=s1 h0
      rw [hB]
      refine ⟨hi,?_,fun s hs=>?_,fun s h1 h2=>?_⟩
      · show A.now≤x.At;omega
      · rcases hset s with e | ⟨_,e⟩
        · exact e
        · omega
      · exfalso
        rcases hset s with e | ⟨e,_⟩ <;> omega
theorem jJx {p:GPermitPlan} (hp:DN p):SQ p (Oa p):=by
 refine DK hp (d:=[]) (A:=⟨0,fun s=>bif lY p s then ⟨0,[],(rF p s).To⟩ else ⟨0,[],0⟩,fun _=>none,[],[]⟩) ⟨fun s=>?_,fun x hx e=>?_,fun x hx y hy e=>?_,(by simp),fun x hx=>?_,List.Pairwise.nil,(fun s t e=>by cases e),Nat.le_refl _⟩
 ·unfold stA;simp only [];cases lY p s <;> simp
 ·exfalso;unfold stA at e;simp only [] at e;cases hh:lY p x.Name <;> rw [hh] at e <;> cases e
 ·exfalso;unfold stA at e;simp only [] at e;cases hh:lY p x.Name <;> rw [hh] at e <;> cases e
 ·refine .inl ?_
  simp only []
  rw [yT.2 ⟨x,hx,rfl⟩,cond_true,hp.Et hx]
end Go.KB
namespace Go.KB
set_option linter.unusedVariables false
theorem G5 {S O:Type} {n N:Nat} {f:S→Option (S ⊕ O)} (I:Nat→S→Prop) (Q:O→Prop) {s0:S} (h0:I 0 s0) (h:∀ i s,i<n→I i s→∃ s',f s=some (.inl s')∧I (i+1) s') (he:∀ s,I n s→∃ o,f s=some (.inr o)∧Q o) (hN:n<N):∃ o,dU f N s0=some o∧Q o:=by
 have key:∀ k i s,i+k=n→I i s→∀ M,k<M→∃ o,dU f M s=some o∧Q o:=by
  intro k
  induction k with
  | zero =>
   intro i s hi hs M hM
   obtain ⟨M,rfl⟩:∃ m,M=m+1:=⟨M - 1,by omega⟩
   have:i=n:=by omega
   subst this
   obtain ⟨o,h1,h2⟩:=he s hs
   exact ⟨o,by simp only [dU,h1],h2⟩
  | succ k ih =>
   intro i s hi hs M hM
   obtain ⟨M,rfl⟩:∃ m,M=m+1:=⟨M - 1,by omega⟩
   obtain ⟨s',h1,h2⟩:=h i s (by omega) hs
   simp only [dU,h1]
   exact ih (i+1) s' (by omega) h2 M (by omega)
 exact key n 0 s0 (by omega) h0 N (by omega)
theorem Ij {α β:Type} [DecidableEq α] (x k:α) (y:β):∀ m:List (α×β),oW (rE m x y) k=(decide (k=x)||oW m k)
 | []=>by simp [oW,rE]
 | q :: r=>by
  unfold rE
  by_cases h:x=q.1
  ·rw [dT h,cond_true];unfold oW;rw [← h];cases decide (k=x) <;> simp
  ·rw [dF h,cond_false];unfold oW;rw [Ij x k y r]
   cases decide (k=q.1) <;> cases decide (k=x) <;> rfl
structure Ot (p:GPermitPlan) (es:Str→ah) (st:List (Str×ah)):Prop where
 get:∀ s,lY p s=true→je (⟨0,[],0⟩:ah) st s=es s
 has:∀ s,oW st s=lY p s
theorem Ot.set {p:GPermitPlan} {es:Str→ah} {st:List (Str×ah)} (h:Ot p es st) {n:Str} (hn:lY p n=true) (e:ah):Ot p (fun s=>bif decide (s=n) then e else es s) (rE st n e):=by
 refine ⟨fun s hs=>?_,fun s=>?_⟩
 ·rw [EX]
  by_cases he:s=n
  ·rw [if_pos he,dT he];rfl
  ·rw [if_neg he,dF he];exact h.get s hs
 ·rw [Ij,h.has]
  by_cases he:s=n
  ·rw [dT he,he,hn];rfl
  ·rw [dF he];rfl
theorem Ot.congr {p:GPermitPlan} {es es':Str→ah} {st:List (Str×ah)} (h:Ot p es st) (he:∀ s,lY p s=true→es s=es' s):Ot p es' st:=⟨fun s hs=>by rw [h.get s hs,he s hs],h.has⟩
structure RelB (p:GPermitPlan) (A:AO) (g:ai) (qP:List (Str×ay)):Prop where
 plan:g.plan=p
 now:g.now=A.now
 Ou:∀ s,oW qP s=(A.ts s).isSome
 Ov:∀ s t,A.ts s=some t→je (⟨0,0,0⟩:ay) qP s=t
structure RelA (p:GPermitPlan) (A:AO) (g:ai) (st:List (Str×ah)) (qP:List (Str×ay)) (pe:List (Str×Str)):Prop where
 b:RelB p A g qP
 st:Ot p A.es st
 pe:pe.Perm A.pp
 done:g.done=A.done
structure G6 (A:AO):Prop where
 tm:0≤A.now∧A.now≤1000000
 st:∀ s,0≤stA A s∧stA A s≤6
 tt:∀ s t,A.ts s=some t→0≤t.at_∧t.at_≤1000000
 pl:A.pp.length<1000000
theorem WA.bd {p:GPermitPlan} {d:List GEvent} {A:AO} (h:WA p d A) (hd:d.length<1000000):G6 A:=⟨h.tm,h.st,h.tt,Nat.lt_of_le_of_lt h.pl hd⟩
section
variable {N:Nat} {p:GPermitPlan} {A:AO} {g:ai} {st:List (Str×ah)} {qP:List (Str×ay)} {pe:List (Str×Str)} (hp:EZ p) (hN:1000000≤N) (h:RelB p A g qP) (b:G6 A)
include hp hN h b
theorem jJz {s:Str}:rq N g st qP pe s=some (PD p A s,Pz p A s):=by
 have hs:=hp.s
 unfold rq PD Pz
 rw [h.plan,zK (by omega) hN,bS,h.Ou s,h.now]
 show (bif !(yx p s).dm then _ else _)=_
 cases (yx p s).dm with
 | false=>rfl
 | true =>
  simp only [Bool.not_true,cond_false]
  cases ht:A.ts s with
  | none=>rfl
  | some t =>
   have h1:=b.tt s t ht
   have h2:=b.tm
   rw [h.Ov s t ht,w64i (by omega) (by omega)]
   simp only [Option.isSome_some,Bool.true_and,vG,Am]
theorem LK {x:aG} {s:Str}:mO N g st qP pe s x=some (DF p A x s):=by
 unfold mO DF
 rw [jJz hp hN h b,bS,jr]
 cases decide (x.Kind=0) <;> rfl
theorem Ox {x:aG}:nN N g st qP pe x=some (zS p A x):=by
 have hl:=Oi (x:=x) hp
 unfold nN
 rw [h.plan,YP hp hN,bS]
 have hi:gX N g st qP pe (G7 p x) x=some (Gg (DF p A x) (G7 p x)):=by
  unfold gX
  refine yA (fun i hi=>?_) ?_ (by omega)
  ·unfold gK
   rw [bQ,dT (by omega),cond_true,ji hi,bS,LK hp hN h b,bS,qw (by omega)]
  ·unfold gK
   rw [bQ,dF (by omega),cond_false]
 have hd:gV N g st qP pe (G7 p x) x=some (zS p A x):=by
  unfold gV
  rw [hi,bS]
  refine del_eq (g:=DF p A x) (fun xs i j hj hij hj2 hm=>?_) (fun xs i=>?_) (by omega) hN
  ·unfold gG
   simp only []
   rw [bQ,dT (by omega),cond_true,ji hj,bS,LK hp hN h b,bS,qw (by omega),qw (by omega),ji (by omega),bS,Int.toNat_natCast]
  ·unfold gG
   simp only []
   rw [bQ,dF (by omega),cond_false]
 rw [hd];rfl
end
theorem Jl {N:Nat} {p:GPermitPlan} {A:AO} {g:ai} {st:List (Str×ah)} {qP:List (Str×ay)} {pe:List (Str×Str)} (hN:1000000≤N) (hst:Ot p A.es st) {n:Str} {l:List Int} (hn:lY p n=true) (hl:l.length<100):fO N g st qP pe n l=some (l.contains (stA A n)):=by
 unfold fO
 rw [Oy (by omega) hN,bS,hst.get n hn];rfl
theorem LM {N:Nat} {p:GPermitPlan} {A:AO} {g:ai} {st:List (Str×ah)} {qP:List (Str×ay)} {pe:List (Str×Str)} (hp:EZ p) (hN:1000000≤N) (hst:Ot p A.es st) {x:aG} (hx:x.Locks.length<1000) (hlk:∀ l ∈ x.Locks,lY p l=true):lT N g st qP pe x=some (DZ A x):=by
 have hlim:lim ≥ 1000000:=by decide
 unfold lT
 have hc:gY N x.Locks=some x.Locks:=by
  unfold gY
  rw [zW (by simp only [List.length_nil];omega)];rfl
 rw [hc,bS]
 have h1:∀ s,kM N g st qP pe s=some (decide (stA A s=2))∨¬ lY p s=true:=by
  intro s
  by_cases hs:lY p s=true
  ·left
   unfold kM
   rw [Jl hN hst hs (by decide),bS]
   congr 1
   rw [Bool.eq_iff_iff];simp
  ·exact .inr hs
 have h2:∀ s ∈ x.Locks,kM N g st qP pe s=some (decide (stA A s=2)):=fun s hs=>(h1 s).elim id fun hn=>absurd (hlk s hs) hn
 have hi:gW N g st qP pe x.Locks=some (Gg (fun s=>decide (stA A s=2)) x.Locks):=by
  unfold gW
  refine yA (fun i hi=>?_) ?_ (by omega)
  ·unfold gJ
   rw [bQ,dT (by omega),cond_true,ji hi,bS,h2 _ (List.getElem_mem hi),bS,qw (by omega)]
  ·unfold gJ
   rw [bQ,dF (by omega),cond_false]
 unfold iL
 rw [hi,bS,del_eq (g:=fun s=>decide (stA A s=2)) (f:=eU N g st qP pe) (fun xs i j hj hij hj2 hm=>?_) (fun xs i=>?_) (by omega) hN]
 ·rfl
 ·unfold eU
  simp only []
  rw [bQ,dT (by omega),cond_true,ji hj,bS,h2 _ hm,bS,qw (by omega),qw (by omega),ji (by omega),bS,Int.toNat_natCast]
 ·unfold eU
  simp only []
  rw [bQ,dF (by omega),cond_false]
def Cb (p:GPermitPlan) (i:Nat) (s:Str):Bool:=(p.aj.take i).any (OI s)
theorem JO {p:GPermitPlan} {s:Str}:Cb p p.aj.length s=lY p s:=by unfold Cb lY;rw [List.take_length]
theorem G8 {p:GPermitPlan} {i:Nat} (hi:i<p.aj.length) {s:Str}:Cb p (i+1) s=(Cb p i s||decide (p.aj[i].Name=s)):=by
 unfold Cb;rw [List.take_succ_eq_append_getElem hi,List.any_append];simp [OI]
theorem QG {p:GPermitPlan} (ho:DN p) {i:Nat} (hi:i<p.aj.length):Cb p i p.aj[i].Name=false:=by
 unfold Cb
 rw [Bool.eq_false_iff]
 intro hx
 rw [List.any_eq_true] at hx
 obtain ⟨y,hy,hg⟩:=hx
 obtain ⟨j,hj,rfl⟩:=List.getElem_of_mem hy
 rw [List.length_take] at hj
 rw [List.getElem_take] at hg
 simp only [OI,decide_eq_true_eq] at hg
 have:=ho.pd j i (by omega) hi (by rw [BH (by omega),BH hi,hg])
 omega
theorem Ik {p:GPermitPlan} {i:Nat} (hi:i<p.aj.length):lY p p.aj[i].Name=true:=yT.2 ⟨_,List.getElem_mem hi,rfl⟩
theorem YQ {N:Nat} {p:GPermitPlan} {A:AO} {g:ai} {st:List (Str×ah)} {qP:List (Str×ay)} {pe:List (Str×Str)} (hp:EZ p) (ho:DN p) (hN:1000000≤N) (h:RelB p A g qP) (hst:Ot p A.es st) (b:G6 A):∃ st',dU (mP N g qP pe) N (0,st)=some st'∧Ot p (zX p A).es st':=by
 have hm:=hp.m
 refine G5 (n:=p.aj.length) (fun i s=>s.1=(i:Int)∧Ot p (fun s=>bif Cb p i s then zY A.now (A.es s) else A.es s) s.2) _ ⟨rfl,hst.congr fun s _=>by unfold Cb;simp⟩ (fun i s hi hs=>?_) (fun s hs=>?_) (by omega)
 ·obtain ⟨s1,st'⟩:=s
  obtain ⟨rfl,hr⟩:=hs
  simp only [] at hr
  have hn:=Ik hi
  have he:(bif Cb p i p.aj[i].Name then zY A.now (A.es p.aj[i].Name) else A.es p.aj[i].Name)=A.es p.aj[i].Name:=by rw [QG ho hi];rfl
  have hg:=hr.get _ hn
  rw [he] at hg
  have hst:=b.st p.aj[i].Name
  unfold stA at hst
  have hc:([0,1,2,3]:List Int).contains (A.es p.aj[i].Name).state=decide ((A.es p.aj[i].Name).state≤3):=by
   rw [Bool.eq_iff_iff];simp;omega
  have hi':fO N g st' qP pe p.aj[i].Name [0,1,2,3]=some (decide ((A.es p.aj[i].Name).state≤3)):=by
   unfold fO
   rw [Oy (by decide) hN,bS,hg,hc]
  have hnext:∀ (e:ah),e=zY A.now (A.es p.aj[i].Name)→∀ s,lY p s=true→(bif decide (s=p.aj[i].Name) then e else (bif Cb p i s then zY A.now (A.es s) else A.es s))=(bif Cb p (i+1) s then zY A.now (A.es s) else A.es s):=by
   intro e hee s _
   rw [G8 hi]
   by_cases hs:s=p.aj[i].Name
   ·subst hs;rw [dT rfl,Bool.or_true,cond_true,cond_true,hee]
   ·rw [dF hs,dF (fun x=>hs x.symm),Bool.or_false];rfl
  unfold mP
  simp only []
  rw [h.plan,bQ,dT (by omega),cond_true,ji hi,bS,hi',bS,hg,vG,h.now,qw (by omega)]
  cases hx:(decide ((A.es p.aj[i].Name).state≤3)&&decide ((A.es p.aj[i].Name).xX≤A.now)) with
  | true =>
   refine ⟨_,rfl,rfl,?_⟩
   rw [hg]
   exact (hr.set hn _).congr (hnext _ (by unfold zY;rw [hx];rfl))
  | false =>
   refine ⟨_,rfl,rfl,?_⟩
   refine hr.congr fun s hs=>?_
   rw [← hnext _ rfl s hs]
   by_cases he2:s=p.aj[i].Name
   ·subst he2;rw [dT rfl,cond_true,he];unfold zY;rw [hx];rfl
   ·rw [dF he2];rfl
 ·obtain ⟨s1,st'⟩:=s
  obtain ⟨rfl,hr⟩:=hs
  unfold mP
  simp only []
  rw [h.plan,bQ,dF (by omega),cond_false]
  exact ⟨_,rfl,hr.congr fun s _=>by rw [JO];rfl⟩
theorem VH {p:GPermitPlan} (ho:DN p) {B:AO} {l:Str} (hl:lY p l=true) (hk:(rF p l).Kind=5):(yG p B).es l=B.es l:=by
 show (bif lY p l&&decide (stA B l=2)&&wY p B (rF p l) then ({ B.es l with state:=3 }:ah) else B.es l)=_
 rw [S9 ho (zC hl).1 hk,Bool.and_false];rfl
theorem gt0 {α:Type} {l:List α}:aF .gtr (List.length l:Int) 0 = !l.isEmpty:=by
 rw [sG]
 cases l with
 | nil=>rfl
 | cons x r=>simp
theorem Tc {N:Nat} {p:GPermitPlan} {B:AO} {g:ai} {st:List (Str×ah)} {qP:List (Str×ay)} {pe:List (Str×Str)} (hp:EZ p) (ho:DN p) (hN:1000000≤N) (h:RelB p B g qP) (hst:Ot p B.es st) (b:G6 B):∃ o:Bool×List (Str×ah),dU (lg N g qP pe) N (false,0,st)=some o∧Ot p (yG p B).es o.2∧o.1=p.aj.any (fun x=>decide (stA B x.Name=2)&&wY p B x):=by
 have hm:=hp.m
 refine G5 (n:=p.aj.length) (fun i s=>s.2.1=(i:Int)∧Ot p (fun s=>bif Cb p i s then (yG p B).es s else B.es s) s.2.2∧s.1=(p.aj.take i).any (fun x=>decide (stA B x.Name=2)&&wY p B x)) _ ⟨rfl,hst.congr fun s _=>by unfold Cb;simp,by simp⟩ (fun i s hi hs=>?_) (fun s hs=>?_) (by omega)
 ·obtain ⟨fl,s1,st'⟩:=s
  obtain ⟨rfl,hr,rfl⟩:=hs
  simp only [] at hr
  have hx:=List.getElem_mem hi
  have hn:=Ik hi
  have he:(bif Cb p i p.aj[i].Name then (yG p B).es p.aj[i].Name else B.es p.aj[i].Name)=B.es p.aj[i].Name:=by rw [QG ho hi];rfl
  have hg:=hr.get _ hn
  rw [he] at hg
  have hi':fO N g st' qP pe p.aj[i].Name [2]=some (decide (stA B p.aj[i].Name=2)):=by
   unfold fO
   rw [Oy (by decide) hN,bS,hg]
   congr 1
   unfold stA
   rw [Bool.eq_iff_iff];simp
  have hlk:lT N g st' qP pe p.aj[i]=some (DZ B p.aj[i]):=by
   rw [LM (A:={ B with es:=fun s=>bif Cb p i s then (yG p B).es s else B.es s }) hp hN hr (hp.l _ hx) (fun l hl=>(ho.lk _ hx l hl).1)]
   congr 1
   unfold DZ
   refine List.filter_congr fun l hl=>?_
   have:=ho.lk _ hx l hl
   have e:stA { B with es:=fun s=>bif Cb p i s then (yG p B).es s else B.es s } l=stA B l:=by
    show (bif Cb p i l then (yG p B).es l else B.es l).state=_
    rw [VH ho this.1 this.2.1]
    cases Cb p i l <;> rfl
   rw [e]
  have hnext:∀ (e:ah),e=(yG p B).es p.aj[i].Name→∀ s,lY p s=true→(bif decide (s=p.aj[i].Name) then e else (bif Cb p i s then (yG p B).es s else B.es s))=(bif Cb p (i+1) s then (yG p B).es s else B.es s):=by
   intro e hee s _
   rw [G8 hi]
   by_cases hs:s=p.aj[i].Name
   ·subst hs;rw [dT rfl,Bool.or_true,cond_true,cond_true,hee]
   ·rw [dF hs,dF (fun x=>hs x.symm),Bool.or_false];rfl
  have WE:(yG p B).es p.aj[i].Name=(bif decide (stA B p.aj[i].Name=2)&&wY p B p.aj[i] then ({ B.es p.aj[i].Name with state:=3 }:ah) else B.es p.aj[i].Name):=by
   show (bif lY p p.aj[i].Name&&decide (stA B p.aj[i].Name=2)&&wY p B (rF p p.aj[i].Name) then ({ B.es p.aj[i].Name with state:=3 }:ah) else B.es p.aj[i].Name)=_
   rw [hn,ho.Et hx,Bool.true_and]
  have hany:(p.aj.take (i+1)).any (fun x=>decide (stA B x.Name=2)&&wY p B x)=((p.aj.take i).any (fun x=>decide (stA B x.Name=2)&&wY p B x)||(decide (stA B p.aj[i].Name=2)&&wY p B p.aj[i])):=by
   rw [List.take_succ_eq_append_getElem hi,List.any_append];simp
  have hsame:(decide (stA B p.aj[i].Name=2)&&wY p B p.aj[i])=false→Ot p (fun s=>bif Cb p (i+1) s then (yG p B).es s else B.es s) st':=fun hb=>hr.congr fun s hs=>by
   rw [← hnext _ rfl s hs]
   by_cases he2:s=p.aj[i].Name
   ·subst he2;rw [dT rfl,cond_true,he,WE,hb];rfl
   ·rw [dF he2];rfl
  have hset:(decide (stA B p.aj[i].Name=2)&&wY p B p.aj[i])=true→Ot p (fun s=>bif Cb p (i+1) s then (yG p B).es s else B.es s) (rE st' p.aj[i].Name ({ B.es p.aj[i].Name with state:=3 }:ah)):=fun hb =>
   (hr.set hn _).congr (hnext _ (by rw [WE,hb];rfl))
  unfold lg
  simp only []
  rw [h.plan,bQ,dT (by omega),cond_true,ji hi,bS,hi',bS,qw (by omega),hany]
  by_cases h2:stA B p.aj[i].Name=2
  ·rw [dT h2] at hsame hset ⊢
   simp only [cond_true,Bool.true_and] at hsame hset ⊢
   rw [Ox hp hN h b,bS,gt0]
   unfold wY at hsame hset ⊢
   cases hla:(zS p B p.aj[i]).isEmpty with
   | false =>
    rw [hla] at hset
    simp only [Bool.not_false,Bool.true_or,Bool.or_true,Bool.not_true,cond_false,cond_true,bS] at hset ⊢
    refine ⟨_,rfl,rfl,?_,rfl⟩
    rw [hg];exact hset trivial
   | true =>
    rw [hla] at hset hsame
    simp only [Bool.not_false,Bool.false_or,Bool.not_true,cond_true,hlk,bS,gt0] at hset hsame ⊢
    cases hu:(DZ B p.aj[i]).isEmpty with
    | false =>
     rw [hu] at hset
     refine ⟨_,rfl,rfl,?_,by simp⟩
     rw [hg];exact hset rfl
    | true =>
     rw [hu] at hsame
     exact ⟨_,rfl,rfl,hsame rfl,by simp⟩
  ·rw [dF h2] at hsame ⊢
   exact ⟨_,rfl,rfl,hsame rfl,by simp⟩
 ·obtain ⟨fl,s1,st'⟩:=s
  obtain ⟨rfl,hr,rfl⟩:=hs
  unfold lg
  simp only []
  rw [h.plan,bQ,dF (by omega),cond_false]
  exact ⟨_,rfl,hr.congr fun s hs=>by rw [JO,hs];rfl,by rw [List.take_length]⟩
theorem G6.exp {p:GPermitPlan} {A:AO} (b:G6 A):G6 (zX p A):=⟨b.tm,fun s=>by
 rcases UU (p:=p) (A:=A) (s:=s) with e | ⟨e,_⟩ <;> rw [e]
 ·exact b.st s
 ·decide,b.tt,b.pl⟩
theorem G6.sus {p:GPermitPlan} {A:AO} (b:G6 A):G6 (yG p A):=⟨b.tm,fun s=>by
 rcases KW (p:=p) (A:=A) (s:=s) with ⟨e,_⟩ | ⟨e,_⟩ <;> rw [e]
 ·exact b.st s
 ·decide,b.tt,b.pl⟩
theorem G6.settle {p:GPermitPlan} {A:AO} (b:G6 A):G6 (gQ p A):=b.exp.sus
theorem La {N:Nat} {p:GPermitPlan} {A:AO} {g:ai} {st:List (Str×ah)} {qP:List (Str×ay)} {pe:List (Str×Str)} (hp:EZ p) (ho:DN p) (hN:1000000≤N) (h:RelB p A g qP) (hst:Ot p A.es st) (b:G6 A):∃ st',lH N g st qP pe=some st'∧Ot p (gQ p A).es st':=by
 unfold lH
 obtain ⟨s1,h1,r1⟩:=YQ (pe:=pe) hp ho hN h hst b
 rw [h1,bS]
 have hE:RelB p (zX p A) g qP:=⟨h.plan,h.now,h.Ou,h.Ov⟩
 have hS:RelB p (gQ p A) g qP:=⟨h.plan,h.now,h.Ou,h.Ov⟩
 obtain ⟨⟨f2,s2⟩,h2,r2,e2⟩:=Tc (pe:=pe) hp ho hN hE r1 b.exp
 obtain ⟨⟨f3,s3⟩,h3,r3,e3⟩:=Tc (pe:=pe) hp ho hN hS r2 b.settle
 have e3':f3=false:=by
  rw [show f3=_ from e3,Bool.eq_false_iff]
  intro hx
  rw [List.any_eq_true] at hx
  obtain ⟨x,hx,hb⟩:=hx
  rw [Bool.and_eq_true,decide_eq_true_eq] at hb
  rw [BI ho hx hb.1] at hb
  cases hb.2
 subst e3'
 obtain ⟨M,rfl⟩:∃ M,N=M+3:=⟨N - 3,by omega⟩
 have step:∀ (st:List (Str×ah)) (o:Bool×List (Str×ah)),dU (lg (M+3) g qP pe) (M+3) (false,0,st)=some o→mQ (M+3) g qP pe (true,st)=some (.inl o):=by
  intro st o ho
  unfold mQ
  rw [cond_true,ho];rfl
 have stop:∀ st:List (Str×ah),mQ (M+3) g qP pe (false,st)=some (.inr st):=fun st=>rfl
 cases f2 with
 | false =>
  refine ⟨s2,?_,r2⟩
  rw [show M+3=(M+2)+1 from rfl]
  simp only [dU,step _ _ h2,stop];rfl
 | true =>
  refine ⟨s3,?_,r3.congr fun s hs=>?_⟩
  ·simp only [dU,step _ _ h2,step _ _ h3,stop];rfl
  ·show (bif lY p s&&decide (stA (gQ p A) s=2)&&wY p (gQ p A) (rF p s) then ({ (gQ p A).es s with state:=3 }:ah) else (gQ p A).es s)=_
   by_cases h2:stA (gQ p A) s=2
   ·obtain ⟨hm,hnm⟩:=zC hs
    rw [BI ho hm (by rw [hnm];exact h2),Bool.and_false];rfl
   ·rw [dF h2,Bool.and_false,Bool.false_and];rfl
end Go.KB
namespace Go.KB
set_option linter.unusedVariables false
theorem WM {N:Nat} {l:List bT} {f:bT→Option Bool} {g:bT→Bool} (hf:∀ y,f y=some (g y)) (hl:l.length<1000000) (hN:1000000≤N):iU N l f=some (Gg g l):=by
 unfold iU
 refine yA (fun i hi=>?_) ?_ (by omega)
 ·unfold iH
  rw [bQ,dT (by omega),cond_true,ji hi,bS,hf,bS,qw (by omega)]
 ·unfold iH
  rw [bQ,dF (by omega),cond_false]
theorem ixI_ge {α:Type} {g:α→Bool} {l:List α}:aF .geq (Gg g l) 0=l.any g:=by
 have:=Eu (g:=g) (l:=l)
 rw [Am]
 cases h2:l.any g with
 | true=>rw [h2] at this;simp at this;rw [dT (by omega)]
 | false=>rw [h2] at this;simp at this;rw [dF (by omega)]
theorem Td {N:Nat} {p:GPermitPlan} {x y:aG} (hp:EZ p) (hN:1000000≤N):vk N p x y=some (wX p x y):=by
 have hx:=hp.x
 unfold vk wX
 rw [qM,JQ hp hN]
 cases decide (x.Name=y.Name) with
 | true=>rfl
 | false =>
  rw [cond_false,cond_false,bS]
  unfold jv
  rw [WM (g:=fun e=>exE e (kJ p x.Space y.Space) x.Kind y.Kind) (fun e=>by unfold tZ exE;simp only [vG,jr]) (by omega) hN,bS,ixI_ge];rfl
theorem cloneS {N:Nat} {l:List dn} (h:l.length<1000):lU N l=some l:=by
 have hlim:lim ≥ 1000000:=by decide
 unfold lU;rw [zW (by simp only [List.length_nil];omega)];rfl
theorem cloneP {N:Nat} {l:List aG} (h:l.length<1000):kU N l=some l:=by
 have hlim:lim ≥ 1000000:=by decide
 unfold kU;rw [zW (by simp only [List.length_nil];omega)];rfl
theorem cloneE {N:Nat} {l:List bT} (h:l.length<1000):jq N l=some l:=by
 have hlim:lim ≥ 1000000:=by decide
 unfold jq;rw [zW (by simp only [List.length_nil];omega)];rfl
theorem YR {N:Nat} {l:List Str} (h:l.length<1000):gY N l=some l:=by
 have hlim:lim ≥ 1000000:=by decide
 unfold gY;rw [zW (by simp only [List.length_nil];omega)];rfl
theorem Tf {α:Type} {l:List α} {i:Nat} (h:i<l.length):l.set i l[i]=l:=List.set_getElem_self h
theorem WN {N:Nat} {p:GPermitPlan} (hp:EZ p) (hN:1000000≤N):x9 N p=some p:=by
 have h1:=hp.s
 have h2:=hp.x
 have h3:=hp.m
 unfold x9
 rw [cloneS h1,cloneE h2,cloneP h3]
 simp only [bS]
 have e2:dU (qo N p.bG) N (0,p.bG)=some p.bG:=Be (f:=qo N p.bG) (n:=p.bG.length) (fun i=>((i:Int),p.bG)) p.bG (fun i hi=>by
  unfold qo
  simp only []
  rw [bQ,dT (by omega),cond_true,ji hi,bS,YR (hp.n _ (List.getElem_mem hi)),bS,bS,qw (by omega),Int.toNat_natCast,Tf hi]) (by
  unfold qo
  simp only []
  rw [bQ,dF (by omega),cond_false]) (by omega)
 have e1:dU (qp N p.aj) N (0,p.aj)=some p.aj:=Be (f:=qp N p.aj) (n:=p.aj.length) (fun i=>((i:Int),p.aj)) p.aj (fun i hi=>by
  unfold qp
  simp only []
  rw [bQ,dT (by omega),cond_true,ji hi,bS,YR (hp.l _ (List.getElem_mem hi)),bS,bS,qw (by omega),Int.toNat_natCast,Tf hi]) (by
  unfold qp
  simp only []
  rw [bQ,dF (by omega),cond_false]) (by omega)
 rw [e2,e1];rfl
def KZ (p:GPermitPlan):AO:=⟨0,fun s=>bif lY p s then ⟨0,[],(rF p s).To⟩ else ⟨0,[],0⟩,fun _=>none,[],[]⟩
theorem jJv (p:GPermitPlan):G6 (KZ p):=⟨⟨by show (0:Int)≤0;omega,by show (0:Int)≤1000000;omega⟩,fun s=>by unfold stA KZ;simp only [];cases lY p s <;> simp,(fun s t e=>by cases e),by show 0<1000000;omega⟩
theorem YS {N:Nat} {p:GPermitPlan} (hp:EZ p) (ho:DN p) (hN:1000000≤N):∃ st,dU (pW N p) N (0,([]:List (Str×ah)))=some st∧Ot p (KZ p).es st:=by
 have hm:=hp.m
 have key:∃ st,dU (pW N p) N (0,([]:List (Str×ah)))=some st∧(∀ n,Cb p p.aj.length n=true→je (⟨0,[],0⟩:ah) st n=⟨0,[],(rF p n).To⟩)∧∀ n,oW st n=Cb p p.aj.length n:=by
  refine G5 (N:=N) (n:=p.aj.length) (f:=pW N p) (s0:=(0,([]:List (Str×ah)))) (fun i s=>s.1=(i:Int)∧(∀ n,Cb p i n=true→je (⟨0,[],0⟩:ah) s.2 n=⟨0,[],(rF p n).To⟩)∧∀ n,oW s.2 n=Cb p i n) (fun st=>(∀ n,Cb p p.aj.length n=true→je (⟨0,[],0⟩:ah) st n=⟨0,[],(rF p n).To⟩)∧∀ n,oW st n=Cb p p.aj.length n) ⟨rfl,fun n h=>by unfold Cb at h;simp at h,fun n=>by unfold Cb;simp [oW]⟩ (fun i s hi hs=>?_) (fun s hs=>?_) (by omega)
  ·obtain ⟨s1,st⟩:=s
   obtain ⟨rfl,h1,h2⟩:=hs
   simp only [] at h1 h2
   refine ⟨_,by unfold pW;simp only [];rw [bQ,dT (by omega),cond_true,ji hi,bS,qw (by omega)],rfl,fun n hn=>?_,fun n=>?_⟩
   ·simp only []
    rw [EX]
    by_cases he:n=p.aj[i].Name
    ·rw [if_pos he,he,ho.Et (List.getElem_mem hi)]
    ·rw [if_neg he]
     rw [G8 hi,dF (fun x=>he x.symm),Bool.or_false] at hn
     exact h1 n hn
   ·simp only []
    rw [Ij,h2,G8 hi,Bool.or_comm]
    congr 1
    exact decide_eq_decide.2 ⟨Eq.symm,Eq.symm⟩
  ·obtain ⟨s1,st⟩:=s
   obtain ⟨rfl,h1,h2⟩:=hs
   refine ⟨st,?_,h1,h2⟩
   unfold pW
   simp only []
   rw [bQ,dF (by omega),cond_false]
 obtain ⟨st,h1,h2,h3⟩:=key
 exact ⟨st,h1,fun s hs=>by rw [h2 s (by rw [JO];exact hs)];show _=(bif lY p s then _ else _);rw [hs];rfl,fun s=>by rw [h3,JO]⟩
theorem New_eq {N:Nat} {p:GPermitPlan} (hp:EZ p) (ho:wW p=0) (hN:1000000≤N):∃ st,ru N p=some (some ((⟨p,0,[]⟩:ai),st,[],[]),0)∧RelA p (Oa p) (⟨p,0,[]⟩:ai) st [] []:=by
 have hk:=okP ho
 unfold ru
 rw [JR hp hN,ho,bS,uK,dT rfl,Bool.not_true,cond_false,WN hp hN,bS]
 obtain ⟨s1,h1,r1⟩:=YS hp hk hN
 rw [h1,bS]
 have hb:RelB p (KZ p) (⟨p,0,[]⟩:ai) []:=⟨rfl,rfl,fun s=>rfl,fun s t e=>by cases e⟩
 obtain ⟨s2,h2,r2⟩:=La (pe:=([]:List (Str×Str))) hp hk hN hb r1 (jJv p)
 rw [h2,bS]
 exact ⟨s2,rfl,⟨rfl,rfl,fun s=>rfl,fun s t e=>by cases e⟩,r2,List.Perm.refl _,rfl⟩
theorem ZW {N:Nat} {p:GPermitPlan} (hp:EZ p) (ho:wW p≠0) (hN:1000000≤N):ru N p=some (none,wW p):=by
 unfold ru
 rw [JR hp hN,bS,uK,dF ho];rfl
end Go.KB
