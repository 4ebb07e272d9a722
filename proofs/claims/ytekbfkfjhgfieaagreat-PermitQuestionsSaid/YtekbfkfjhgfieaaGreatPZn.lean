/- Plain laws of chapter 7: what stays true in an office. Plain laws of chapter 7: the program's office settles. Plain laws of chapter 7: which permits exclude each other; the new office. No condition. -/
import Derived.Test.YtekbfkfjhgfieaaGreatPZm
namespace Go.KB
set_option linter.unusedVariables false
theorem bifD {α:Type} {q:Prop} [Decidable q] {a b:α}:(bif decide q then a else b)=if q then a else b:=by
 by_cases h:q
 ·rw [dT h,if_pos h];rfl
 ·rw [dF h,if_neg h];rfl
structure WA (p:GPermitPlan) (d:List GEvent) (A:AO):Prop where
 st:∀ s,0≤stA A s∧stA A s≤6
 fr:∀ x ∈ p.ak,stA A x.Name=2→x.From≤A.now
 ex:∀ x ∈ p.ak,∀ y ∈ p.ak,stA A x.Name=2→stA A y.Name=2→yA p x y=false
 tm:0≤A.now∧A.now≤1000000
 to:∀ x ∈ p.ak,(A.es x.Name).zF=x.To∨∃ v ∈ d,v.Op=11∧v.Name=x.Name∧v.To=(A.es x.Name).zF
 pp:A.pp.Pairwise (fun a b=>a.1<b.1)
 tt:∀ s t,A.ts s=some t→0≤t.at_∧t.at_≤1000000
 pl:A.pp.length≤d.length
structure Vf (p:GPermitPlan) (A:AO):Prop where
 w:WA p A.done A
 un:∀ x ∈ p.ak,stA A x.Name=2→yP p A x=false
 li:∀ x ∈ p.ak,stA A x.Name≤3→A.now<(A.es x.Name).zF
theorem WA.le {p:GPermitPlan} {d:List GEvent} {A A':AO} (h:WA p d A) (hs:∀ s,stA A' s=stA A s∨(0≤stA A' s∧stA A' s≤6∧stA A' s≠2)) (ht:∀ s,(A'.es s).zF=(A.es s).zF) (hn:A.now≤A'.now∧A'.now≤1000000) (hp:A'.pp.Pairwise (fun a b=>a.1<b.1)) (hq:∀ s t,A'.ts s=some t→A.ts s=some t∨(0≤t.at_∧t.at_≤1000000)) (hl:A'.pp.length≤d.length):WA p d A':=by
 have h2:∀ s,stA A' s=2→stA A s=2:=fun s e=>by
  rcases hs s with h1 | h1
  ·rw [← h1];exact e
  ·exact absurd e h1.2.2
 have htm:=h.tm
 refine ⟨fun s=>?_,fun x hx e=>?_,fun x hx y hy e f=>h.ex x hx y hy (h2 _ e) (h2 _ f),⟨by omega,hn.2⟩,fun x hx=>?_,hp,fun s t e=>(hq s t e).elim (h.tt s t) id,hl⟩
 ·rcases hs s with h1 | h1
  ·rw [h1];exact h.st s
  ·exact ⟨h1.1,h1.2.1⟩
 ·have:=h.fr x hx (h2 _ e);omega
 ·rw [ht];exact h.to x hx
theorem WA.mono {p:GPermitPlan} {d d':List GEvent} {A:AO} (h:WA p d A) (hd:∀ v ∈ d,v ∈ d') (hl:d.length≤d'.length):WA p d' A :=
 ⟨h.st,h.fr,h.ex,h.tm,fun x hx=>(h.to x hx).imp id fun ⟨v,hv,e⟩=>⟨v,hd v hv,e⟩,h.pp,h.tt,by have:=h.pl;omega⟩
theorem WA.snoc {p:GPermitPlan} {d:List GEvent} {A:AO} {x:GEvent} (h:WA p d A):WA p (d ++ [x]) A:=h.mono (fun v hv=>List.mem_append_left _ hv) (by simp)
theorem up_es {A:AO} {n s:Str} {e:ah}:(WS A n e).es s=if s=n then e else A.es s:=bifD
theorem RU {A:AO} {n s:Str} {e:ah}:stA (WS A n e) s=if s=n then e.state else stA A s:=by
 unfold stA;rw [up_es];split <;> rfl
theorem WA.up {p:GPermitPlan} {d:List GEvent} {A:AO} {n:Str} {e:ah} (h:WA p d A) (he:0≤e.state∧e.state≤6) (h2:e.state=2→∀ x ∈ p.ak,x.Name=n→x.From≤A.now∧∀ y ∈ p.ak,stA A y.Name=2→yA p x y=false) (ht:e.zF=(A.es n).zF∨∃ v ∈ d,v.Op=11∧v.Name=n∧v.To=e.zF):WA p d (WS A n e):=by
 refine ⟨fun s=>?_,fun x hx=>?_,fun x hx y hy=>?_,h.tm,fun x hx=>?_,h.pp,h.tt,h.pl⟩
 ·rw [RU];split
  ·exact he
  ·exact h.st s
 ·rw [RU];split
  ·rename_i hn;intro e2;exact (h2 e2 x hx hn).1
  ·intro e2;exact h.fr x hx e2
 ·rw [RU,RU]
  split
  ·rename_i hn
   split
   ·rename_i hm;intro _ _;unfold yA;rw [dT (hn.trans hm.symm)];rfl
   ·intro e2 f2;exact (h2 e2 x hx hn).2 y hy f2
  ·split
   ·rename_i hm;intro e2 f2;rw [Lm];exact (h2 f2 y hy hm).2 x hx e2
   ·exact h.ex x hx y hy
 ·rw [up_es]
  split
  ·rename_i hn
   rcases ht with ht | ⟨v,hv,a,b,c⟩
   ·rw [ht,← hn];exact h.to x hx
   ·exact .inr ⟨v,hv,a,b.trans hn.symm,c⟩
  ·exact h.to x hx
theorem WX {p:GPermitPlan} {A:AO} {s:Str}:stA (BX p A) s=stA A s∨(stA (BX p A) s=6∧stA A s≤3∧(A.es s).zF≤A.now):=by
 unfold stA BX BZ
 simp only []
 cases l9 p s with
 | false=>exact .inl rfl
 | true =>
  rw [lW]
  by_cases h:(A.es s).state≤3
  ·rw [dT h]
   by_cases h1:(A.es s).zF≤A.now
   ·rw [dT h1];exact .inr ⟨rfl,h,h1⟩
   ·rw [dF h1];exact .inl rfl
  ·rw [dF h];exact .inl rfl
theorem jJb {p:GPermitPlan} {A:AO} {s:Str}:((BX p A).es s).zF=(A.es s).zF:=by
 unfold BX BZ
 simp only []
 cases l9 p s with
 | false=>rfl
 | true=>rw [lW];cases (decide ((A.es s).state≤3)&&decide ((A.es s).zF≤A.now)) <;> rfl
theorem exp_li {p:GPermitPlan} {A:AO} {s:Str} (hs:l9 p s=true) (h:stA (BX p A) s≤3):A.now<(A.es s).zF:=by
 unfold stA BX BZ at h
 simp only [] at h
 rw [hs,lW] at h
 by_cases h3:(A.es s).state≤3
 ·rw [dT h3] at h
  by_cases h1:(A.es s).zF≤A.now
  ·rw [dT h1] at h;simp at h
  ·omega
 ·rw [dF h3] at h;simp at h;omega
theorem NJ {p:GPermitPlan} {A:AO} {s:Str}:(stA (zX p A) s=stA A s∧¬ (l9 p s=true∧stA A s=2∧yP p A (tK p s)=true))∨(stA (zX p A) s=3∧stA A s=2∧yP p A (tK p s)=true):=by
 have e:stA (zX p A) s=(bif l9 p s&&decide (stA A s=2)&&yP p A (tK p s) then ({ A.es s with state:=3 }:ah) else A.es s).state:=rfl
 rw [e]
 cases h1:l9 p s with
 | false=>exact .inl ⟨rfl,fun h=>by cases h.1⟩
 | true =>
  by_cases h2:stA A s=2
  ·rw [dT h2]
   cases h3:yP p A (tK p s) with
   | false=>exact .inl ⟨rfl,fun h=>by cases h.2.2⟩
   | true=>exact .inr ⟨rfl,h2,rfl⟩
  ·rw [dF h2];exact .inl ⟨rfl,fun h=>h2 h.2.1⟩
theorem jJg {p:GPermitPlan} {A:AO} {s:Str}:((zX p A).es s).zF=(A.es s).zF:=by
 unfold zX
 simp only []
 cases (l9 p s&&decide (stA A s=2)&&yP p A (tK p s)) <;> rfl
theorem J8 {p:GPermitPlan} {A:AO} {s:Str}:stA (iy p A) s=stA A s∨((stA (iy p A) s=6∨stA (iy p A) s=3)∧stA A s≤3):=by
 unfold iy
 rcases NJ (p:=p) (A:=BX p A) (s:=s) with ⟨h1,_⟩ | ⟨h1,h2,_⟩
 ·rw [h1];rcases WX (p:=p) (A:=A) (s:=s) with h | h
  ·exact .inl h
  ·exact .inr ⟨.inl h.1,h.2.1⟩
 ·refine .inr ⟨.inr h1,?_⟩
  rcases WX (p:=p) (A:=A) (s:=s) with h | h
  ·rw [← h,h2];decide
  ·exact h.2.1
theorem J7 {p:GPermitPlan} {A:AO} {s:Str}:((iy p A).es s).zF=(A.es s).zF:=jJg.trans jJb
theorem WA.settle {p:GPermitPlan} {d:List GEvent} {A:AO} (h:WA p d A):WA p d (iy p A) :=
 h.le (fun s=>(J8 (p:=p) (A:=A) (s:=s)).imp id fun ⟨h1,_⟩=>by rcases h1 with h1 | h1 <;> rw [h1] <;> decide) (fun s=>J7) ⟨Int.le_refl _,h.tm.2⟩ h.pp (fun s t e=>.inl e) h.pl
theorem Vj {p:GPermitPlan} (hp:EQ p) {A:AO} {x:aH} (hx:x ∈ p.ak) (hk:x.Kind=5):yP p A x=false:=by
 have h1:JC p x=[]:=by unfold JC BQ;rw [hk];rfl
 have h2:x.Locks=[]:=by
  cases hl:x.Locks with
  | nil=>rfl
  | cons l r=>exact absurd hk (hp.lk x hx l (by rw [hl];exact List.mem_cons_self)).2.2
 unfold yP BA Fp
 rw [h1,h2];rfl
theorem jXv {A:AO} {x:aH}:(Fp A x).isEmpty=true↔∀ l ∈ x.Locks,stA A l=2:=by
 unfold Fp
 rw [List.isEmpty_iff,List.filter_eq_nil_iff]
 constructor
 ·intro h l hl;have:=h l hl;simpa using this
 ·intro h l hl;rw [h l hl];decide
theorem D5 {p:GPermitPlan} (hp:EQ p) {A:AO} {x:aH} (hx:x ∈ p.ak) (h2:stA (iy p A) x.Name=2):yP p (iy p A) x=false:=by
 unfold iy at h2 ⊢
 have hh:l9 p x.Name=true:=zL.2 ⟨x,hx,rfl⟩
 rcases NJ (p:=p) (A:=BX p A) (s:=x.Name) with ⟨h,hn⟩ | ⟨h,_⟩
 ·rw [h] at h2
  have hb:yP p (BX p A) x=false:=by
   rw [hp.Fq hx] at hn
   cases hb:yP p (BX p A) x with
   | false=>rfl
   | true=>exact absurd ⟨hh,h2,hb⟩ hn
  unfold yP at hb ⊢
  rw [Bool.or_eq_false_iff] at hb ⊢
  refine ⟨hb.1,?_⟩
  have hb2:=hb.2
  rw [Bool.not_eq_false',jXv] at hb2 ⊢
  intro l hl
  obtain ⟨h5,h6,_⟩:=hp.lk x hx l hl
  rcases NJ (p:=p) (A:=BX p A) (s:=l) with ⟨h7,_⟩ | ⟨_,_,h7⟩
  ·rw [h7];exact hb2 l hl
  ·rw [Vj hp (AA h5).1 h6] at h7;cases h7
 ·rw [h] at h2;cases h2
theorem Yw {p:GPermitPlan} {A:AO} {s:Str} (hs:l9 p s=true) (h:stA (iy p A) s≤3):A.now<((iy p A).es s).zF:=by
 rw [J7]
 unfold iy at h
 refine exp_li hs ?_
 rcases NJ (p:=p) (A:=BX p A) (s:=s) with ⟨h1,_⟩ | ⟨h1,h2,_⟩
 ·rw [h1] at h;exact h
 ·rw [h2];decide
theorem FD {p:GPermitPlan} (hp:EQ p) {d:List GEvent} {A:AO} (h:WA p d A):Vf p { iy p A with done:=d } :=
 ⟨⟨h.settle.st,h.settle.fr,h.settle.ex,h.settle.tm,h.settle.to,h.settle.pp,h.settle.tt,h.settle.pl⟩,fun x hx e=>D5 hp (A:=A) hx e,fun x hx e=>Yw (A:=A) (zL.2 ⟨x,hx,rfl⟩) e⟩
theorem jXk {p:GPermitPlan} {A:AO} {x:aH} (h:Eh p A x=[]):x.From≤A.now∧∀ y ∈ p.ak,stA A y.Name=2→yA p y x=false:=by
 unfold Eh at h
 obtain ⟨h1,h2⟩:=List.append_eq_nil_iff.1 h
 constructor
 ·by_cases hf : A.now < x.From
  ·rw [dT hf] at h1;cases h1
  ·omega
 ·intro y hy e
  rw [List.filter_eq_nil_iff] at h2
  have:=h2 (⟨20,nH p A (fun y=>yA p y x)⟩:bD) (by simp)
  have h3:nH p A (fun y=>yA p y x)=[]:=by simpa using this
  unfold nH at h3
  rw [List.map_eq_nil_iff,List.filter_eq_nil_iff] at h3
  have:=h3 y hy
  rw [dT e] at this
  simpa using this
theorem TL {q:Str×Str} {n s:Str}:∀ {l:List (Str×Str)},q ∈ Ku l n s→q=(n,s)∨q ∈ l
 | [],h=>by simpa [Ku] using h
 | a :: r,h=>by
  unfold Ku at h
  cases hd:decide (a.1<n) with
  | false=>rw [hd,mD] at h;simpa using h
  | true =>
   rw [hd,lW] at h
   rcases List.mem_cons.1 h with rfl | h
   ·exact .inr List.mem_cons_self
   ·exact (TL h).imp id fun h=>List.mem_cons_of_mem _ h
theorem XO {n s:Str}:∀ {l:List (Str×Str)},(Ku l n s).length=l.length+1
 | []=>rfl
 | a :: r=>by
  unfold Ku
  cases decide (a.1<n) with
  | true=>rw [lW,List.length_cons,XO,List.length_cons]
  | false=>rfl
theorem QB {n s : Str} : ∀ {l : List (Str × Str)}, (l.any fun q => decide (q.1 = n)) = false → l.Pairwise (fun a b => a.1 < b.1) → (Ku l n s).Pairwise (fun a b => a.1 < b.1)
  | [],_,_=>by simp [Ku]
  | a :: r,hn,h=>by
    rw [List.any_cons,Bool.or_eq_false_iff,decide_eq_false_iff_not] at hn
    rw [List.pairwise_cons] at h
    unfold Ku
    cases hd:decide (a.1<n) with
    | false =>
      rw [mD,List.pairwise_cons]
      rw [decide_eq_false_iff_not] at hd
      have hlt:n<a.1:=by
        rcases List.le_iff_lt_or_eq.1 (show n≤a.1 from hd) with h1 | h1
        · exact h1
        · exact absurd h1.symm hn.1
      refine ⟨fun q hq=>?_,List.pairwise_cons.2 h⟩
      rcases List.mem_cons.1 hq with rfl | hq
      · exact hlt
      · exact List.lt_trans hlt (h.1 q hq)
    | true =>
      rw [decide_eq_true_eq] at hd
      rw [lW,List.pairwise_cons]
      refine ⟨fun q hq=>?_,QB hn.2 h.2⟩
      rcases TL hq with rfl | hq
      · exact hd
      · exact h.1 q hq
def StepA (p:GPermitPlan) (A:AO) (x:GEvent) (r:AO×List Str×Int):Prop :=
 (r.2.2≠0→r.1=A)∧(∀ d,WA p d A→WA p (d ++ [x]) r.1)∧r.1.now=A.now∧r.1.done=A.done ∧
 (∀ s,stA A s ≥ 4→stA r.1 s=stA A s)∧(∀ s,stA r.1 s=2→stA A s≠2→(x.Op=2∨x.Op=4)∧x.Name=s∧r.2.2=0)
theorem sV {p:GPermitPlan} {A:AO} {x:GEvent} {e:Int} {l:List Str}:StepA p A x (xO A e l) :=
 ⟨fun _=>rfl,fun d h=>h.snoc,rfl,rfl,fun _ _=>rfl,fun s h1 h2=>absurd h1 h2⟩
theorem step_up {p:GPermitPlan} {A:AO} {x:GEvent} {n:Str} {e:ah} (h4:stA A n≤3) (he:0≤e.state∧e.state≤6) (h2:∀ d,WA p d A→e.state=2→∀ x ∈ p.ak,x.Name=n→x.From≤A.now∧∀ y ∈ p.ak,stA A y.Name=2→yA p x y=false) (ht:e.zF=(A.es n).zF∨(x.Op=11∧x.Name=n∧x.To=e.zF)) (ho:e.state=2→stA A n≠2→(x.Op=2∨x.Op=4)∧x.Name=n):StepA p A x (CV (WS A n e)):=by
 refine ⟨fun h=>absurd rfl h,fun d h=>?_,rfl,rfl,fun s hs=>?_,fun s h1 hne=>?_⟩
 ·exact h.snoc.up he (fun e2=>h2 d h e2) (ht.imp id fun ⟨a,b,c⟩=>⟨x,List.mem_append_right _ (List.mem_singleton_self _),a,b,c⟩)
 ·show stA (WS A n e) s=_
  rw [RU]
  split
  ·rename_i h;subst h;omega
  ·rfl
 ·have h1':stA (WS A n e) s=2:=h1
  rw [RU] at h1'
  split at h1'
  ·rename_i h;subst h;exact ⟨(ho h1' hne).1,(ho h1' hne).2,rfl⟩
  ·exact absurd h1' hne
theorem TN {p:GPermitPlan} {A:AO} {x:GEvent} {n:Str} {k:Int} (h4:stA A n≤3) (hk:0≤k∧k≤6) (h2:k≠2):StepA p A x (CV (QS A n k)) :=
 step_up h4 hk (fun d _ e=>absurd e h2) (.inl rfl) (fun e=>absurd e h2)
theorem J9 {p:GPermitPlan} {A A':AO} {x:GEvent} (he:A'.es=A.es) (hn:A'.now=A.now) (hd:A'.done=A.done) (hp:A.pp.Pairwise (fun a b=>a.1<b.1)→A'.pp.Pairwise (fun a b=>a.1<b.1)) (hq:0≤A.now∧A.now≤1000000→∀ s t,A'.ts s=some t→A.ts s=some t∨(0≤t.at_∧t.at_≤1000000)) (hl:A'.pp.length≤A.pp.length+1):StepA p A x (CV A'):=by
 have hs:∀ s,stA A' s=stA A s:=fun s=>by unfold stA;rw [he]
 refine ⟨fun h=>absurd rfl h,fun d h=>?_,hn,hd,fun s _=>hs s,fun s h1 h2=>absurd ((hs s).symm.trans h1) h2⟩
 exact h.snoc.le (fun s=>.inl (hs s)) (fun s=>by show (A'.es s).zF=_;rw [he]) ⟨by show A.now≤A'.now;omega,by have:=h.tm;show A'.now≤_;omega⟩ (hp h.pp) (hq h.tm) (by have:=h.pl;rw [List.length_append];simp only [List.length_singleton];show A'.pp.length≤_;omega)
theorem QC {p:GPermitPlan} (hp:EQ p) {A:AO} {x:GEvent} (ho:x.Op=2∨x.Op=4) (h4:stA A x.Name≤3) (hh:l9 p x.Name=true):StepA p A x (Bl p A x):=by
 unfold Bl
 cases mZ x.Person with
 | false=>exact sV
 | true =>
  cases decide (x.Person=(A.es x.Name).AU) with
  | true=>exact sV
  | false =>
   simp only [Bool.not_true,mD]
   cases hw:Eh p A (tK p x.Name) with
   | cons r l=>exact sV
   | nil =>
    refine step_up h4 (by simp) (fun d hd _ y hy hn=>?_) (.inl rfl) (fun _ _=>⟨ho,rfl⟩)
    have hy2:tK p x.Name=y:=by rw [← hn];exact hp.Fq hy
    rw [hy2] at hw
    obtain ⟨h1,h2⟩:=jXk hw
    exact ⟨h1,fun z hz e=>by rw [Lm];exact h2 z hz e⟩
theorem ML {p:GPermitPlan} (hp:EQ p) {A:AO} {x:GEvent} (h0:0≤x.Op) (h12:x.Op<12):StepA p A x (yh p A x):=by
  have hop:x.Op=0∨x.Op=1∨x.Op=2∨x.Op=3∨x.Op=4∨x.Op=5∨x.Op=6∨x.Op=7∨x.Op=8∨x.Op=9∨x.Op=10∨x.Op=11:=by omega
  have acts:∀ {l:List Int} {R:AO×List Str×Int},(∀ k ∈ l,k≤3)→(l9 p x.Name=true→stA A x.Name ∈ l→stA A x.Name≤3→StepA p A x R)→StepA p A x (bif !l9 p x.Name then xO A 6 [] else bif !l.contains (stA A x.Name) then xO A 18 [] else R):=by
    intro l R hl hR
    cases hh:l9 p x.Name with
    | false=>exact sV
    | true =>
      cases hc:l.contains (stA A x.Name) with
      | false=>exact sV
      | true =>
        have hm:stA A x.Name ∈ l:=by simpa using hc
        exact hR hh hm (hl _ hm)
  unfold yh yD xN
  rcases hop with h | h | h | h | h | h | h | h | h | h | h | h <;> simp only [h,if_true,if_false,Int.reduceEq]
  · exact J9 rfl rfl rfl id (fun _ s t e=>.inl e) (Nat.le_succ _)
  · refine acts (by decide) fun hh hm h4 => ?_
    unfold D6
    cases mZ x.Person with
    | false=>exact sV
    | true=>exact step_up h4 (by simp) (fun _ _ e=>by cases e) (.inl rfl) (fun e=>by cases e)
  · exact acts (by decide) fun hh hm h4=>QC hp (.inl h) h4 hh
  · exact acts (by decide) fun hh hm h4=>TN h4 (by decide) (by decide)
  · exact acts (by decide) fun hh hm h4=>QC hp (.inr h) h4 hh
  · refine acts (by decide) fun hh hm h4 => ?_
    unfold CW
    simp only []
    cases (decide ((tK p x.Name).Kind=5) && !(nH p A (fun z=>FI z.Locks (tK p x.Name).Name)).isEmpty) with
    | true=>exact sV
    | false =>
      rw [mD]
      cases (decide ((tK p x.Name).Kind=1)&&decide (stA A (tK p x.Name).Name=2)&&(yN p (tK p x.Name).Space).dD&&(nH p A (fun z=>decide (z.Kind=1)&&decide (z.Space=(tK p x.Name).Space) && !decide (z.Name=(tK p x.Name).Name))).isEmpty && !(vG A (fun s=>decide (s=(tK p x.Name).Space))).isEmpty) with
      | true=>exact sV
      | false=>exact TN h4 (by decide) (by decide)
  · exact acts (by decide) fun hh hm h4=>TN h4 (by decide) (by decide)
  · unfold Vb
    cases uY p x.Space with
    | false=>exact sV
    | true =>
      cases (decide (x.qx<0)||decide (1000<x.qx)||decide (x.IW<0)||decide (1000<x.IW)) with
      | true=>exact sV
      | false =>
        refine J9 rfl rfl rfl id (fun hn s t e=>?_) (Nat.le_succ _)
        simp only [] at e
        cases hd:decide (s=x.Space) with
        | true=>rw [hd,lW] at e;cases e;exact .inr hn
        | false=>rw [hd,mD] at e;exact .inl e
  · unfold JI
    cases mZ x.Person with
    | false=>exact sV
    | true =>
      cases uY p x.Space with
      | false=>exact sV
      | true =>
        cases hi:Bc A x.Person with
        | true=>exact sV
        | false =>
          simp only [Bool.not_true,mD]
          cases ((yN p x.Space).dD && !tu p A x.Space) with
          | true=>exact sV
          | false =>
            rw [mD]
            cases (!(nH p A (fun y=>decide (y.Kind=3)&&decide (lI p y.Space x.Space≤1))).isEmpty) with
            | true=>exact sV
            | false=>exact J9 rfl rfl rfl (fun hpp=>QB hi hpp) (fun _ s t e=>.inl e) (Nat.le_of_eq XO)
  · unfold JH
    cases mZ x.Person with
    | false=>exact sV
    | true =>
      cases Bc A x.Person with
      | false=>exact sV
      | true=>exact J9 rfl rfl rfl (fun hpp=>hpp.filter _) (fun _ s t e=>.inl e) (Nat.le_succ_of_le (List.length_filter_le _ _))
  · unfold JG
    cases uY p x.Space with
    | false=>exact sV
    | true =>
      simp only [Bool.not_true,mD]
      have hs:∀ s,stA { A with es:=fun s=>bif l9 p s&&decide (stA A s=2)&&(!decide ((tK p s).Kind=5)&&decide (lI p (tK p s).Space x.Space≤1)) then { A.es s with state:=3 } else A.es s } s=stA A s∨(stA { A with es:=fun s=>bif l9 p s&&decide (stA A s=2)&&(!decide ((tK p s).Kind=5)&&decide (lI p (tK p s).Space x.Space≤1)) then { A.es s with state:=3 } else A.es s } s=3∧stA A s=2):=by
        intro s
        unfold stA
        simp only []
        cases l9 p s with
        | false=>exact .inl rfl
        | true =>
          by_cases h2:(A.es s).state=2
          · rw [dT h2]
            cases (!decide ((tK p s).Kind=5)&&decide (lI p (tK p s).Space x.Space≤1)) with
            | false=>exact .inl rfl
            | true=>exact .inr ⟨rfl,h2⟩
          · rw [dF h2];exact .inl rfl
      refine ⟨fun h=>absurd rfl h,fun d hd=>?_,rfl,rfl,fun s h4=>?_,fun s h1 h2=>?_⟩
      · refine hd.snoc.le (fun s => (hs s).imp id fun h => by show _ ∧ _ ∧ _; rw [show stA (CV _).1 s = 3 from h.1]; decide) (fun s => ?_) ⟨Int.le_refl _, hd.tm.2⟩ hd.pp (fun s t e => .inl e) hd.snoc.pl
        show (bif _ then ({ A.es s with state:=3 }:ah) else A.es s).zF=_
        cases (l9 p s&&decide (stA A s=2)&&(!decide ((tK p s).Kind=5)&&decide (lI p (tK p s).Space x.Space≤1))) <;> rfl
      · rcases hs s with h | h
        · exact h
        · omega
      · rcases hs s with h | h
        · exact absurd (h.symm.trans h1) h2
        · exact absurd h.2 h2
  · refine acts (by decide) fun hh hm h4 => ?_
    unfold Gj
    cases mZ x.Person with
    | false=>exact sV
    | true =>
      cases (decide (x.To≤(A.es x.Name).zF)||decide (1000000<x.To)) with
      | true=>exact sV
      | false =>
        have hm':stA A x.Name=1∨stA A x.Name=2∨stA A x.Name=3:=by simpa using hm
        refine step_up h4 ⟨?_,?_⟩ (fun d hd e y hy hn=>?_) (.inr ⟨h,rfl,rfl⟩) (fun e hne=>absurd e hne)
        · show 0≤stA A x.Name;omega
        · show stA A x.Name≤6;omega
        · have e':stA A x.Name=2:=e
          rw [← hn] at e'
          exact ⟨hd.fr y hy e',fun z hz e2=>hd.ex y hy z hz e' e2⟩
theorem inv_do {p:GPermitPlan} (hp:EQ p) {A:AO} {x:GEvent} (h:Vf p A):Vf p (OX p A x).1∧A.now≤(OX p A x).1.now∧(∀ s,stA A s ≥ 4→stA (OX p A x).1 s=stA A s)∧(∀ s,stA (OX p A x).1 s=2→stA A s≠2→(x.Op=2∨x.Op=4)∧x.Name=s∧(OX p A x).2.2=0):=by
  unfold OX
  by_cases hr:x.Op<0∨12≤x.Op∨x.At<0∨1000000<x.At
  · have hr' : (decide (x.Op < 0) || decide (12 ≤ x.Op) || decide (x.At < 0) || decide (1000000 < x.At)) = true := by simpa [or_assoc] using hr
    rw [hr']
    exact ⟨h,Int.le_refl _,fun _ _=>rfl,fun s h1 h2=>absurd h1 h2⟩
  · have hr' : (decide (x.Op < 0) || decide (12 ≤ x.Op) || decide (x.At < 0) || decide (1000000 < x.At)) = false := by simp; omega
    rw [hr',mD]
    by_cases ho:x.At<A.now
    · rw [dT ho];exact ⟨h,Int.le_refl _,fun _ _=>rfl,fun s h1 h2=>absurd h1 h2⟩
    rw [dF ho,mD]
    have hw:WA p A.done { A with now:=x.At }:=h.w.le (fun s=>.inl rfl) (fun _=>rfl) ⟨by show A.now≤x.At;omega,by show x.At≤1000000;omega⟩ h.w.pp (fun s t e=>.inl e) h.w.pl
    have hi:=FD hp hw
    have hset:∀ s,stA (iy p { A with now:=x.At }) s=stA A s∨((stA (iy p { A with now:=x.At }) s=6∨stA (iy p { A with now:=x.At }) s=3)∧stA A s≤3):=fun s=>J8 (p:=p) (A:={ A with now:=x.At }) (s:=s)
    obtain ⟨s1,s2,s3,s4,s5,s6⟩:=ML hp (A:=iy p { A with now:=x.At }) (x:=x) (by omega) (by omega)
    generalize hR:yh p (iy p { A with now:=x.At }) x=R at s1 s2 s3 s4 s5 s6
    simp only []
    by_cases h0:R.2.2=0
    · rw [dT h0,lW]
      have hw2:=s2 _ hi.w
      refine ⟨FD hp (d:=A.done ++ [x]) hw2,?_,fun s hs=>?_,fun s h1 h2=>?_⟩
      · show A.now≤R.1.now
        rw [s3];show A.now≤x.At;omega
      · show stA (iy p R.1) s=stA A s
        have e1:stA (iy p { A with now:=x.At }) s=stA A s:=by
          rcases hset s with e | ⟨_,e⟩
          · exact e
          · omega
        have e2:=s5 s (by omega)
        rcases J8 (p:=p) (A:=R.1) (s:=s) with e | ⟨_,e⟩ <;> omega
      · have h1':stA (iy p R.1) s=2:=h1
        have e2:stA R.1 s=2:=by
          rcases J8 (p:=p) (A:=R.1) (s:=s) with e | ⟨e,_⟩ <;> omega
        have e3:stA (iy p { A with now:=x.At }) s≠2:=by
          rcases hset s with e | ⟨e,_⟩ <;> omega
        obtain ⟨a,b,c⟩:=s6 s e2 e3
        exact ⟨a,b,rfl⟩
    · rw [dF h0,mD]
      have hB:=s1 h0
      rw [hB]
      refine ⟨hi,?_,fun s hs=>?_,fun s h1 h2=>?_⟩
      · show A.now≤x.At;omega
      · rcases hset s with e | ⟨_,e⟩
        · exact e
        · omega
      · exfalso
        rcases hset s with e | ⟨e,_⟩ <;> omega
theorem jXw {p:GPermitPlan} (hp:EQ p):Vf p (Qk p):=by
 refine FD hp (d:=[]) (A:=⟨0,fun s=>bif l9 p s then ⟨0,[],(tK p s).To⟩ else ⟨0,[],0⟩,fun _=>none,[],[]⟩) ⟨fun s=>?_,fun x hx e=>?_,fun x hx y hy e=>?_,(by simp),fun x hx=>?_,List.Pairwise.nil,(fun s t e=>by cases e),Nat.le_refl _⟩
 ·unfold stA;simp only [];cases l9 p s <;> simp
 ·exfalso;unfold stA at e;simp only [] at e;cases hh:l9 p x.Name <;> rw [hh] at e <;> cases e
 ·exfalso;unfold stA at e;simp only [] at e;cases hh:l9 p x.Name <;> rw [hh] at e <;> cases e
 ·refine .inl ?_
  simp only []
  rw [zL.2 ⟨x,hx,rfl⟩,lW,hp.Fq hx]
end Go.KB
namespace Go.KB
set_option linter.unusedVariables false
theorem JB {S O:Type} {n N:Nat} {f:S→Option (S ⊕ O)} (I:Nat→S→Prop) (Q:O→Prop) {s0:S} (h0:I 0 s0) (h:∀ i s,i<n→I i s→∃ s',f s=some (.inl s')∧I (i+1) s') (he:∀ s,I n s→∃ o,f s=some (.inr o)∧Q o) (hN:n<N):∃ o,dX f N s0=some o∧Q o:=by
 have key:∀ k i s,i+k=n→I i s→∀ M,k<M→∃ o,dX f M s=some o∧Q o:=by
  intro k
  induction k with
  | zero =>
   intro i s hi hs M hM
   obtain ⟨M,rfl⟩:∃ m,M=m+1:=⟨M - 1,by omega⟩
   have:i=n:=by omega
   subst this
   obtain ⟨o,h1,h2⟩:=he s hs
   exact ⟨o,by simp only [dX,h1],h2⟩
  | succ k ih =>
   intro i s hi hs M hM
   obtain ⟨M,rfl⟩:∃ m,M=m+1:=⟨M - 1,by omega⟩
   obtain ⟨s',h1,h2⟩:=h i s (by omega) hs
   simp only [dX,h1]
   exact ih (i+1) s' (by omega) h2 M (by omega)
 exact key n 0 s0 (by omega) h0 N (by omega)
theorem Ko {α β:Type} [DecidableEq α] (x k:α) (y:β):∀ m:List (α×β),qM (uj m x y) k=(decide (k=x)||qM m k)
 | []=>by simp [qM,uj]
 | q :: r=>by
  unfold uj
  by_cases h:x=q.1
  ·rw [dT h,lW];unfold qM;rw [← h];cases decide (k=x) <;> simp
  ·rw [dF h,mD];unfold qM;rw [Ko x k y r]
   cases decide (k=q.1) <;> cases decide (k=x) <;> rfl
structure QD (p:GPermitPlan) (es:Str→ah) (st:List (Str×ah)):Prop where
 get:∀ s,l9 p s=true→jD (⟨0,[],0⟩:ah) st s=es s
 has:∀ s,qM st s=l9 p s
theorem QD.set {p:GPermitPlan} {es:Str→ah} {st:List (Str×ah)} (h:QD p es st) {n:Str} (hn:l9 p n=true) (e:ah):QD p (fun s=>bif decide (s=n) then e else es s) (uj st n e):=by
 refine ⟨fun s hs=>?_,fun s=>?_⟩
 ·rw [Ho]
  by_cases he:s=n
  ·rw [if_pos he,dT he];rfl
  ·rw [if_neg he,dF he];exact h.get s hs
 ·rw [Ko,h.has]
  by_cases he:s=n
  ·rw [dT he,he,hn];rfl
  ·rw [dF he];rfl
theorem QD.congr {p:GPermitPlan} {es es':Str→ah} {st:List (Str×ah)} (h:QD p es st) (he:∀ s,l9 p s=true→es s=es' s):QD p es' st:=⟨fun s hs=>by rw [h.get s hs,he s hs],h.has⟩
structure RelB (p:GPermitPlan) (A:AO) (g:ai) (qg:List (Str×au)):Prop where
 plan:g.plan=p
 now:g.now=A.now
 QE:∀ s,qM qg s=(A.ts s).isSome
 QF:∀ s t,A.ts s=some t→jD (⟨0,0,0⟩:au) qg s=t
structure RelA (p:GPermitPlan) (A:AO) (g:ai) (st:List (Str×ah)) (qg:List (Str×au)) (pe:List (Str×Str)):Prop where
 b:RelB p A g qg
 st:QD p A.es st
 pe:pe.Perm A.pp
 done:g.done=A.done
structure IL (A:AO):Prop where
 tm:0≤A.now∧A.now≤1000000
 st:∀ s,0≤stA A s∧stA A s≤6
 tt:∀ s t,A.ts s=some t→0≤t.at_∧t.at_≤1000000
 pl:A.pp.length<1000000
theorem WA.bd {p:GPermitPlan} {d:List GEvent} {A:AO} (h:WA p d A) (hd:d.length<1000000):IL A:=⟨h.tm,h.st,h.tt,Nat.lt_of_le_of_lt h.pl hd⟩
section
variable {N:Nat} {p:GPermitPlan} {A:AO} {g:ai} {st:List (Str×ah)} {qg:List (Str×au)} {pe:List (Str×Str)} (hp:FW p) (hN:1000000≤N) (h:RelB p A g qg) (b:IL A)
include hp hN h b
theorem XP {s:Str}:qQ N g st qg pe s=some (Og p A s,Oh p A s):=by
 have hs:=hp.s
 unfold qQ Og Oh
 rw [h.plan,AB (by omega) hN,bS,h.QE s,h.now]
 show (bif !(yN p s).dD then _ else _)=_
 cases (yN p s).dD with
 | false=>rfl
 | true =>
  simp only [Bool.not_true,mD]
  cases ht:A.ts s with
  | none=>rfl
  | some t =>
   have h1:=b.tt s t ht
   have h2:=b.tm
   rw [h.QF s t ht,w64i (by omega) (by omega)]
   simp only [Option.isSome_some,Bool.true_and,wM,CU]
theorem Ol {x:aH} {s:Str}:oG N g st qg pe s x=some (Fz p A x s):=by
 unfold oG Fz
 rw [XP hp hN h b,bS,jS]
 cases decide (x.Kind=0) <;> rfl
theorem QG {x:aH}:pM N g st qg pe x=some (BA p A x):=by
 have hl:=Qw (x:=x) hp
 unfold pM
 rw [h.plan,jJp hp hN,bS]
 have hi:iJ N g st qg pe (JC p x) x=some (Hq (Fz p A x) (JC p x)):=by
  unfold iJ
  refine zT (fun i hi=>?_) ?_ (by omega)
  ·unfold iw
   rw [bU,dT (by omega),lW,jK hi,bS,Ol hp hN h b,bS,qX (by omega)]
  ·unfold iw
   rw [bU,dF (by omega),mD]
 have hd:iE N g st qg pe (JC p x) x=some (BA p A x):=by
  unfold iE
  rw [hi,bS]
  refine del_eq (g:=Fz p A x) (fun xs i j hj hij hj2 hm=>?_) (fun xs i=>?_) (by omega) hN
  ·unfold ig
   simp only []
   rw [bU,dT (by omega),lW,jK hj,bS,Ol hp hN h b,bS,qX (by omega),qX (by omega),jK (by omega),bS,Int.toNat_natCast]
  ·unfold ig
   simp only []
   rw [bU,dF (by omega),mD]
 rw [hd];rfl
end
theorem JA {N:Nat} {p:GPermitPlan} {A:AO} {g:ai} {st:List (Str×ah)} {qg:List (Str×au)} {pe:List (Str×Str)} (hN:1000000≤N) (hst:QD p A.es st) {n:Str} {l:List Int} (hn:l9 p n=true) (hl:l.length<100):gW N g st qg pe n l=some (l.contains (stA A n)):=by
 unfold gW
 rw [QH (by omega) hN,bS,hst.get n hn];rfl
theorem Om {N:Nat} {p:GPermitPlan} {A:AO} {g:ai} {st:List (Str×ah)} {qg:List (Str×au)} {pe:List (Str×Str)} (hp:FW p) (hN:1000000≤N) (hst:QD p A.es st) {x:aH} (hx:x.Locks.length<1000) (hlk:∀ l ∈ x.Locks,l9 p l=true):nN N g st qg pe x=some (Fp A x):=by
 have hlim:lim ≥ 1000000:=by decide
 unfold nN
 have hc:iI N x.Locks=some x.Locks:=by
  unfold iI
  rw [A7 (by simp only [List.length_nil];omega)];rfl
 rw [hc,bS]
 have h1:∀ s,lZ N g st qg pe s=some (decide (stA A s=2))∨¬ l9 p s=true:=by
  intro s
  by_cases hs:l9 p s=true
  ·left
   unfold lZ
   rw [JA hN hst hs (by decide),bS]
   congr 1
   rw [Bool.eq_iff_iff];simp
  ·exact .inr hs
 have h2:∀ s ∈ x.Locks,lZ N g st qg pe s=some (decide (stA A s=2)):=fun s hs=>(h1 s).elim id fun hn=>absurd (hlk s hs) hn
 have hi:iD N g st qg pe x.Locks=some (Hq (fun s=>decide (stA A s=2)) x.Locks):=by
  unfold iD
  refine zT (fun i hi=>?_) ?_ (by omega)
  ·unfold gZ
   rw [bU,dT (by omega),lW,jK hi,bS,h2 _ (List.getElem_mem hi),bS,qX (by omega)]
  ·unfold gZ
   rw [bU,dF (by omega),mD]
 unfold jl
 rw [hi,bS,del_eq (g:=fun s=>decide (stA A s=2)) (f:=fZ N g st qg pe) (fun xs i j hj hij hj2 hm=>?_) (fun xs i=>?_) (by omega) hN]
 ·rfl
 ·unfold fZ
  simp only []
  rw [bU,dT (by omega),lW,jK hj,bS,h2 _ hm,bS,qX (by omega),qX (by omega),jK (by omega),bS,Int.toNat_natCast]
 ·unfold fZ
  simp only []
  rw [bU,dF (by omega),mD]
def En (p:GPermitPlan) (i:Nat) (s:Str):Bool:=(p.ak.take i).any (OY s)
theorem MK {p:GPermitPlan} {s:Str}:En p p.ak.length s=l9 p s:=by unfold En l9;rw [List.take_length]
theorem JD {p:GPermitPlan} {i:Nat} (hi:i<p.ak.length) {s:Str}:En p (i+1) s=(En p i s||decide (p.ak[i].Name=s)):=by
 unfold En;rw [List.take_succ_eq_append_getElem hi,List.any_append];simp [OY]
theorem TI {p:GPermitPlan} (ho:EQ p) {i:Nat} (hi:i<p.ak.length):En p i p.ak[i].Name=false:=by
 unfold En
 rw [Bool.eq_false_iff]
 intro hx
 rw [List.any_eq_true] at hx
 obtain ⟨y,hy,hg⟩:=hx
 obtain ⟨j,hj,rfl⟩:=List.getElem_of_mem hy
 rw [List.length_take] at hj
 rw [List.getElem_take] at hg
 simp only [OY,decide_eq_true_eq] at hg
 have:=ho.pd j i (by omega) hi (by rw [DC (by omega),DC hi,hg])
 omega
theorem Iy {p:GPermitPlan} {i:Nat} (hi:i<p.ak.length):l9 p p.ak[i].Name=true:=zL.2 ⟨_,List.getElem_mem hi,rfl⟩
theorem jJr {N:Nat} {p:GPermitPlan} {A:AO} {g:ai} {st:List (Str×ah)} {qg:List (Str×au)} {pe:List (Str×Str)} (hp:FW p) (ho:EQ p) (hN:1000000≤N) (h:RelB p A g qg) (hst:QD p A.es st) (b:IL A):∃ st',dX (oC N g qg pe) N (0,st)=some st'∧QD p (BX p A).es st':=by
 have hm:=hp.m
 refine JB (n:=p.ak.length) (fun i s=>s.1=(i:Int)∧QD p (fun s=>bif En p i s then BZ A.now (A.es s) else A.es s) s.2) _ ⟨rfl,hst.congr fun s _=>by unfold En;simp⟩ (fun i s hi hs=>?_) (fun s hs=>?_) (by omega)
 ·obtain ⟨s1,st'⟩:=s
  obtain ⟨rfl,hr⟩:=hs
  simp only [] at hr
  have hn:=Iy hi
  have he:(bif En p i p.ak[i].Name then BZ A.now (A.es p.ak[i].Name) else A.es p.ak[i].Name)=A.es p.ak[i].Name:=by rw [TI ho hi];rfl
  have hg:=hr.get _ hn
  rw [he] at hg
  have hst:=b.st p.ak[i].Name
  unfold stA at hst
  have hc:([0,1,2,3]:List Int).contains (A.es p.ak[i].Name).state=decide ((A.es p.ak[i].Name).state≤3):=by
   rw [Bool.eq_iff_iff];simp;omega
  have hi':gW N g st' qg pe p.ak[i].Name [0,1,2,3]=some (decide ((A.es p.ak[i].Name).state≤3)):=by
   unfold gW
   rw [QH (by decide) hN,bS,hg,hc]
  have hnext:∀ (e:ah),e=BZ A.now (A.es p.ak[i].Name)→∀ s,l9 p s=true→(bif decide (s=p.ak[i].Name) then e else (bif En p i s then BZ A.now (A.es s) else A.es s))=(bif En p (i+1) s then BZ A.now (A.es s) else A.es s):=by
   intro e hee s _
   rw [JD hi]
   by_cases hs:s=p.ak[i].Name
   ·subst hs;rw [dT rfl,Bool.or_true,lW,lW,hee]
   ·rw [dF hs,dF (fun x=>hs x.symm),Bool.or_false];rfl
  unfold oC
  simp only []
  rw [h.plan,bU,dT (by omega),lW,jK hi,bS,hi',bS,hg,wM,h.now,qX (by omega)]
  cases hx:(decide ((A.es p.ak[i].Name).state≤3)&&decide ((A.es p.ak[i].Name).zF≤A.now)) with
  | true =>
   refine ⟨_,rfl,rfl,?_⟩
   rw [hg]
   exact (hr.set hn _).congr (hnext _ (by unfold BZ;rw [hx];rfl))
  | false =>
   refine ⟨_,rfl,rfl,?_⟩
   refine hr.congr fun s hs=>?_
   rw [← hnext _ rfl s hs]
   by_cases he2:s=p.ak[i].Name
   ·subst he2;rw [dT rfl,lW,he];unfold BZ;rw [hx];rfl
   ·rw [dF he2];rfl
 ·obtain ⟨s1,st'⟩:=s
  obtain ⟨rfl,hr⟩:=hs
  unfold oC
  simp only []
  rw [h.plan,bU,dF (by omega),mD]
  exact ⟨_,rfl,hr.congr fun s _=>by rw [MK];rfl⟩
theorem XL {p:GPermitPlan} (ho:EQ p) {B:AO} {l:Str} (hl:l9 p l=true) (hk:(tK p l).Kind=5):(zX p B).es l=B.es l:=by
 show (bif l9 p l&&decide (stA B l=2)&&yP p B (tK p l) then ({ B.es l with state:=3 }:ah) else B.es l)=_
 rw [Vj ho (AA hl).1 hk,Bool.and_false];rfl
theorem gt0 {α:Type} {l:List α}:aG .gtr (List.length l:Int) 0 = !l.isEmpty:=by
 rw [uP]
 cases l with
 | nil=>rfl
 | cons x r=>simp
theorem Vk {N:Nat} {p:GPermitPlan} {B:AO} {g:ai} {st:List (Str×ah)} {qg:List (Str×au)} {pe:List (Str×Str)} (hp:FW p) (ho:EQ p) (hN:1000000≤N) (h:RelB p B g qg) (hst:QD p B.es st) (b:IL B):∃ o:Bool×List (Str×ah),dX (mY N g qg pe) N (false,0,st)=some o∧QD p (zX p B).es o.2∧o.1=p.ak.any (fun x=>decide (stA B x.Name=2)&&yP p B x):=by
 have hm:=hp.m
 refine JB (n:=p.ak.length) (fun i s=>s.2.1=(i:Int)∧QD p (fun s=>bif En p i s then (zX p B).es s else B.es s) s.2.2∧s.1=(p.ak.take i).any (fun x=>decide (stA B x.Name=2)&&yP p B x)) _ ⟨rfl,hst.congr fun s _=>by unfold En;simp,by simp⟩ (fun i s hi hs=>?_) (fun s hs=>?_) (by omega)
 ·obtain ⟨fl,s1,st'⟩:=s
  obtain ⟨rfl,hr,rfl⟩:=hs
  simp only [] at hr
  have hx:=List.getElem_mem hi
  have hn:=Iy hi
  have he:(bif En p i p.ak[i].Name then (zX p B).es p.ak[i].Name else B.es p.ak[i].Name)=B.es p.ak[i].Name:=by rw [TI ho hi];rfl
  have hg:=hr.get _ hn
  rw [he] at hg
  have hi':gW N g st' qg pe p.ak[i].Name [2]=some (decide (stA B p.ak[i].Name=2)):=by
   unfold gW
   rw [QH (by decide) hN,bS,hg]
   congr 1
   unfold stA
   rw [Bool.eq_iff_iff];simp
  have hlk:nN N g st' qg pe p.ak[i]=some (Fp B p.ak[i]):=by
   rw [Om (A:={ B with es:=fun s=>bif En p i s then (zX p B).es s else B.es s }) hp hN hr (hp.l _ hx) (fun l hl=>(ho.lk _ hx l hl).1)]
   congr 1
   unfold Fp
   refine List.filter_congr fun l hl=>?_
   have:=ho.lk _ hx l hl
   have e:stA { B with es:=fun s=>bif En p i s then (zX p B).es s else B.es s } l=stA B l:=by
    show (bif En p i l then (zX p B).es l else B.es l).state=_
    rw [XL ho this.1 this.2.1]
    cases En p i l <;> rfl
   rw [e]
  have hnext:∀ (e:ah),e=(zX p B).es p.ak[i].Name→∀ s,l9 p s=true→(bif decide (s=p.ak[i].Name) then e else (bif En p i s then (zX p B).es s else B.es s))=(bif En p (i+1) s then (zX p B).es s else B.es s):=by
   intro e hee s _
   rw [JD hi]
   by_cases hs:s=p.ak[i].Name
   ·subst hs;rw [dT rfl,Bool.or_true,lW,lW,hee]
   ·rw [dF hs,dF (fun x=>hs x.symm),Bool.or_false];rfl
  have Yr:(zX p B).es p.ak[i].Name=(bif decide (stA B p.ak[i].Name=2)&&yP p B p.ak[i] then ({ B.es p.ak[i].Name with state:=3 }:ah) else B.es p.ak[i].Name):=by
   show (bif l9 p p.ak[i].Name&&decide (stA B p.ak[i].Name=2)&&yP p B (tK p p.ak[i].Name) then ({ B.es p.ak[i].Name with state:=3 }:ah) else B.es p.ak[i].Name)=_
   rw [hn,ho.Fq hx,Bool.true_and]
  have hany:(p.ak.take (i+1)).any (fun x=>decide (stA B x.Name=2)&&yP p B x)=((p.ak.take i).any (fun x=>decide (stA B x.Name=2)&&yP p B x)||(decide (stA B p.ak[i].Name=2)&&yP p B p.ak[i])):=by
   rw [List.take_succ_eq_append_getElem hi,List.any_append];simp
  have hsame:(decide (stA B p.ak[i].Name=2)&&yP p B p.ak[i])=false→QD p (fun s=>bif En p (i+1) s then (zX p B).es s else B.es s) st':=fun hb=>hr.congr fun s hs=>by
   rw [← hnext _ rfl s hs]
   by_cases he2:s=p.ak[i].Name
   ·subst he2;rw [dT rfl,lW,he,Yr,hb];rfl
   ·rw [dF he2];rfl
  have hset:(decide (stA B p.ak[i].Name=2)&&yP p B p.ak[i])=true→QD p (fun s=>bif En p (i+1) s then (zX p B).es s else B.es s) (uj st' p.ak[i].Name ({ B.es p.ak[i].Name with state:=3 }:ah)):=fun hb =>
   (hr.set hn _).congr (hnext _ (by rw [Yr,hb];rfl))
  unfold mY
  simp only []
  rw [h.plan,bU,dT (by omega),lW,jK hi,bS,hi',bS,qX (by omega),hany]
  by_cases h2:stA B p.ak[i].Name=2
  ·rw [dT h2] at hsame hset ⊢
   simp only [lW,Bool.true_and] at hsame hset ⊢
   rw [QG hp hN h b,bS,gt0]
   unfold yP at hsame hset ⊢
   cases hla:(BA p B p.ak[i]).isEmpty with
   | false =>
    rw [hla] at hset
    simp only [Bool.not_false,Bool.true_or,Bool.or_true,Bool.not_true,mD,lW,bS] at hset ⊢
    refine ⟨_,rfl,rfl,?_,rfl⟩
    rw [hg];exact hset trivial
   | true =>
    rw [hla] at hset hsame
    simp only [Bool.not_false,Bool.false_or,Bool.not_true,lW,hlk,bS,gt0] at hset hsame ⊢
    cases hu:(Fp B p.ak[i]).isEmpty with
    | false =>
     rw [hu] at hset
     refine ⟨_,rfl,rfl,?_,by simp⟩
     rw [hg];exact hset rfl
    | true =>
     rw [hu] at hsame
     exact ⟨_,rfl,rfl,hsame rfl,by simp⟩
  ·rw [dF h2] at hsame ⊢
   exact ⟨_,rfl,rfl,hsame rfl,by simp⟩
 ·obtain ⟨fl,s1,st'⟩:=s
  obtain ⟨rfl,hr,rfl⟩:=hs
  unfold mY
  simp only []
  rw [h.plan,bU,dF (by omega),mD]
  exact ⟨_,rfl,hr.congr fun s hs=>by rw [MK,hs];rfl,by rw [List.take_length]⟩
theorem IL.exp {p:GPermitPlan} {A:AO} (b:IL A):IL (BX p A):=⟨b.tm,fun s=>by
 rcases WX (p:=p) (A:=A) (s:=s) with e | ⟨e,_⟩ <;> rw [e]
 ·exact b.st s
 ·decide,b.tt,b.pl⟩
theorem IL.sus {p:GPermitPlan} {A:AO} (b:IL A):IL (zX p A):=⟨b.tm,fun s=>by
 rcases NJ (p:=p) (A:=A) (s:=s) with ⟨e,_⟩ | ⟨e,_⟩ <;> rw [e]
 ·exact b.st s
 ·decide,b.tt,b.pl⟩
theorem IL.settle {p:GPermitPlan} {A:AO} (b:IL A):IL (iy p A):=b.exp.sus
theorem NQ {N:Nat} {p:GPermitPlan} {A:AO} {g:ai} {st:List (Str×ah)} {qg:List (Str×au)} {pe:List (Str×Str)} (hp:FW p) (ho:EQ p) (hN:1000000≤N) (h:RelB p A g qg) (hst:QD p A.es st) (b:IL A):∃ st',nG N g st qg pe=some st'∧QD p (iy p A).es st':=by
 unfold nG
 obtain ⟨s1,h1,r1⟩:=jJr (pe:=pe) hp ho hN h hst b
 rw [h1,bS]
 have hE:RelB p (BX p A) g qg:=⟨h.plan,h.now,h.QE,h.QF⟩
 have hS:RelB p (iy p A) g qg:=⟨h.plan,h.now,h.QE,h.QF⟩
 obtain ⟨⟨f2,s2⟩,h2,r2,e2⟩:=Vk (pe:=pe) hp ho hN hE r1 b.exp
 obtain ⟨⟨f3,s3⟩,h3,r3,e3⟩:=Vk (pe:=pe) hp ho hN hS r2 b.settle
 have e3':f3=false:=by
  rw [show f3=_ from e3,Bool.eq_false_iff]
  intro hx
  rw [List.any_eq_true] at hx
  obtain ⟨x,hx,hb⟩:=hx
  rw [Bool.and_eq_true,decide_eq_true_eq] at hb
  rw [D5 ho hx hb.1] at hb
  cases hb.2
 subst e3'
 obtain ⟨M,rfl⟩:∃ M,N=M+3:=⟨N - 3,by omega⟩
 have step:∀ (st:List (Str×ah)) (o:Bool×List (Str×ah)),dX (mY (M+3) g qg pe) (M+3) (false,0,st)=some o→oD (M+3) g qg pe (true,st)=some (.inl o):=by
  intro st o ho
  unfold oD
  rw [lW,ho];rfl
 have stop:∀ st:List (Str×ah),oD (M+3) g qg pe (false,st)=some (.inr st):=fun st=>rfl
 cases f2 with
 | false =>
  refine ⟨s2,?_,r2⟩
  rw [show M+3=(M+2)+1 from rfl]
  simp only [dX,step _ _ h2,stop];rfl
 | true =>
  refine ⟨s3,?_,r3.congr fun s hs=>?_⟩
  ·simp only [dX,step _ _ h2,step _ _ h3,stop];rfl
  ·show (bif l9 p s&&decide (stA (iy p A) s=2)&&yP p (iy p A) (tK p s) then ({ (iy p A).es s with state:=3 }:ah) else (iy p A).es s)=_
   by_cases h2:stA (iy p A) s=2
   ·obtain ⟨hm,hnm⟩:=AA hs
    rw [D5 ho hm (by rw [hnm];exact h2),Bool.and_false];rfl
   ·rw [dF h2,Bool.and_false,Bool.false_and];rfl
end Go.KB
namespace Go.KB
set_option linter.unusedVariables false
theorem Yx {N:Nat} {l:List cZ} {f:cZ→Option Bool} {g:cZ→Bool} (hf:∀ y,f y=some (g y)) (hl:l.length<1000000) (hN:1000000≤N):jw N l f=some (Hq g l):=by
 unfold jw
 refine zT (fun i hi=>?_) ?_ (by omega)
 ·unfold jd
  rw [bU,dT (by omega),lW,jK hi,bS,hf,bS,qX (by omega)]
 ·unfold jd
  rw [bU,dF (by omega),mD]
theorem ixI_ge {α:Type} {g:α→Bool} {l:List α}:aG .geq (Hq g l) 0=l.any g:=by
 have:=Gy (g:=g) (l:=l)
 rw [CU]
 cases h2:l.any g with
 | true=>rw [h2] at this;simp at this;rw [dT (by omega)]
 | false=>rw [h2] at this;simp at this;rw [dF (by omega)]
theorem Vl {N:Nat} {p:GPermitPlan} {x y:aH} (hp:FW p) (hN:1000000≤N):xE N p x y=some (yA p x y):=by
 have hx:=hp.x
 unfold xE yA
 rw [ru,MN hp hN]
 cases decide (x.Name=y.Name) with
 | true=>rfl
 | false =>
  rw [mD,mD,bS]
  unfold kE
  rw [Yx (g:=fun e=>exE e (lI p x.Space y.Space) x.Kind y.Kind) (fun e=>by unfold vS exE;simp only [wM,jS]) (by omega) hN,bS,ixI_ge];rfl
theorem cloneS {N:Nat} {l:List dH} (h:l.length<1000):nO N l=some l:=by
 have hlim:lim ≥ 1000000:=by decide
 unfold nO;rw [A7 (by simp only [List.length_nil];omega)];rfl
theorem cloneP {N:Nat} {l:List aH} (h:l.length<1000):mJ N l=some l:=by
 have hlim:lim ≥ 1000000:=by decide
 unfold mJ;rw [A7 (by simp only [List.length_nil];omega)];rfl
theorem cloneE {N:Nat} {l:List cZ} (h:l.length<1000):ku N l=some l:=by
 have hlim:lim ≥ 1000000:=by decide
 unfold ku;rw [A7 (by simp only [List.length_nil];omega)];rfl
theorem jJs {N:Nat} {l:List Str} (h:l.length<1000):iI N l=some l:=by
 have hlim:lim ≥ 1000000:=by decide
 unfold iI;rw [A7 (by simp only [List.length_nil];omega)];rfl
theorem Vm {α:Type} {l:List α} {i:Nat} (h:i<l.length):l.set i l[i]=l:=List.set_getElem_self h
theorem Yy {N:Nat} {p:GPermitPlan} (hp:FW p) (hN:1000000≤N):zG N p=some p:=by
 have h1:=hp.s
 have h2:=hp.x
 have h3:=hp.m
 unfold zG
 rw [cloneS h1,cloneE h2,cloneP h3]
 simp only [bS]
 have e2:dX (su N p.bM) N (0,p.bM)=some p.bM:=A8 (f:=su N p.bM) (n:=p.bM.length) (fun i=>((i:Int),p.bM)) p.bM (fun i hi=>by
  unfold su
  simp only []
  rw [bU,dT (by omega),lW,jK hi,bS,jJs (hp.n _ (List.getElem_mem hi)),bS,bS,qX (by omega),Int.toNat_natCast,Vm hi]) (by
  unfold su
  simp only []
  rw [bU,dF (by omega),mD]) (by omega)
 have e1:dX (sD N p.ak) N (0,p.ak)=some p.ak:=A8 (f:=sD N p.ak) (n:=p.ak.length) (fun i=>((i:Int),p.ak)) p.ak (fun i hi=>by
  unfold sD
  simp only []
  rw [bU,dT (by omega),lW,jK hi,bS,jJs (hp.l _ (List.getElem_mem hi)),bS,bS,qX (by omega),Int.toNat_natCast,Vm hi]) (by
  unfold sD
  simp only []
  rw [bU,dF (by omega),mD]) (by omega)
 rw [e2,e1];rfl
def NP (p:GPermitPlan):AO:=⟨0,fun s=>bif l9 p s then ⟨0,[],(tK p s).To⟩ else ⟨0,[],0⟩,fun _=>none,[],[]⟩
theorem jXy (p:GPermitPlan):IL (NP p):=⟨⟨by show (0:Int)≤0;omega,by show (0:Int)≤1000000;omega⟩,fun s=>by unfold stA NP;simp only [];cases l9 p s <;> simp,(fun s t e=>by cases e),by show 0<1000000;omega⟩
theorem jJt {N:Nat} {p:GPermitPlan} (hp:FW p) (ho:EQ p) (hN:1000000≤N):∃ st,dX (rH N p) N (0,([]:List (Str×ah)))=some st∧QD p (NP p).es st:=by
 have hm:=hp.m
 have key:∃ st,dX (rH N p) N (0,([]:List (Str×ah)))=some st∧(∀ n,En p p.ak.length n=true→jD (⟨0,[],0⟩:ah) st n=⟨0,[],(tK p n).To⟩)∧∀ n,qM st n=En p p.ak.length n:=by
  refine JB (N:=N) (n:=p.ak.length) (f:=rH N p) (s0:=(0,([]:List (Str×ah)))) (fun i s=>s.1=(i:Int)∧(∀ n,En p i n=true→jD (⟨0,[],0⟩:ah) s.2 n=⟨0,[],(tK p n).To⟩)∧∀ n,qM s.2 n=En p i n) (fun st=>(∀ n,En p p.ak.length n=true→jD (⟨0,[],0⟩:ah) st n=⟨0,[],(tK p n).To⟩)∧∀ n,qM st n=En p p.ak.length n) ⟨rfl,fun n h=>by unfold En at h;simp at h,fun n=>by unfold En;simp [qM]⟩ (fun i s hi hs=>?_) (fun s hs=>?_) (by omega)
  ·obtain ⟨s1,st⟩:=s
   obtain ⟨rfl,h1,h2⟩:=hs
   simp only [] at h1 h2
   refine ⟨_,by unfold rH;simp only [];rw [bU,dT (by omega),lW,jK hi,bS,qX (by omega)],rfl,fun n hn=>?_,fun n=>?_⟩
   ·simp only []
    rw [Ho]
    by_cases he:n=p.ak[i].Name
    ·rw [if_pos he,he,ho.Fq (List.getElem_mem hi)]
    ·rw [if_neg he]
     rw [JD hi,dF (fun x=>he x.symm),Bool.or_false] at hn
     exact h1 n hn
   ·simp only []
    rw [Ko,h2,JD hi,Bool.or_comm]
    congr 1
    exact decide_eq_decide.2 ⟨Eq.symm,Eq.symm⟩
  ·obtain ⟨s1,st⟩:=s
   obtain ⟨rfl,h1,h2⟩:=hs
   refine ⟨st,?_,h1,h2⟩
   unfold rH
   simp only []
   rw [bU,dF (by omega),mD]
 obtain ⟨st,h1,h2,h3⟩:=key
 exact ⟨st,h1,fun s hs=>by rw [h2 s (by rw [MK];exact hs)];show _=(bif l9 p s then _ else _);rw [hs];rfl,fun s=>by rw [h3,MK]⟩
theorem New_eq {N:Nat} {p:GPermitPlan} (hp:FW p) (ho:yO p=0) (hN:1000000≤N):∃ st,wJ N p=some (some ((⟨p,0,[]⟩:ai),st,[],[]),0)∧RelA p (Qk p) (⟨p,0,[]⟩:ai) st [] []:=by
 have hk:=okP ho
 unfold wJ
 rw [TP hp hN,ho,bS,wu,dT rfl,Bool.not_true,mD,Yy hp hN,bS]
 obtain ⟨s1,h1,r1⟩:=jJt hp hk hN
 rw [h1,bS]
 have hb:RelB p (NP p) (⟨p,0,[]⟩:ai) []:=⟨rfl,rfl,fun s=>rfl,fun s t e=>by cases e⟩
 obtain ⟨s2,h2,r2⟩:=NQ (pe:=([]:List (Str×Str))) hp hk hN hb r1 (jXy p)
 rw [h2,bS]
 exact ⟨s2,rfl,⟨rfl,rfl,fun s=>rfl,fun s t e=>by cases e⟩,r2,List.Perm.refl _,rfl⟩
end Go.KB
