/- Plain laws of chapter 7: what stays true in an office. Plain laws of chapter 7: the program's office settles. Plain laws of chapter 7: which permits exclude each other; the new office. No condition. -/
import Derived.Test.YtjbnolcahodkkaaGreatPZm
namespace Go.KB
set_option linter.unusedVariables false
theorem bifD {α:Type} {q:Prop} [Decidable q] {a b:α}:(bif decide q then a else b)=if q then a else b:=by
 by_cases h:q
 ·rw [dT h,if_pos h];rfl
 ·rw [dF h,if_neg h];rfl
structure WA (p:ax) (d:List cu) (A:AO):Prop where
 st:∀ s,0≤stA A s∧stA A s≤6
 fr:∀ x ∈ p.aO,stA A x.Name=2→x.From≤A.now
 ex:∀ x ∈ p.aO,∀ y ∈ p.aO,stA A x.Name=2→stA A y.Name=2→xN p x y=false
 tm:0≤A.now∧A.now≤1000000
 to:∀ x ∈ p.aO,(A.es x.Name).Es=x.To∨∃ v ∈ d,v.Op=11∧v.Name=x.Name∧v.To=(A.es x.Name).Es
 pp:A.pp.Pairwise (fun a b=>a.1<b.1)
 tt:∀ s t,A.ts s=some t→0≤t.at_∧t.at_≤1000000
 pl:A.pp.length≤d.length
structure VB (p:ax) (A:AO):Prop where
 w:WA p A.done A
 un:∀ x ∈ p.aO,stA A x.Name=2→DY p A x=false
 li:∀ x ∈ p.aO,stA A x.Name≤3→A.now<(A.es x.Name).Es
theorem WA.le {p:ax} {d:List cu} {A A':AO} (h:WA p d A) (hs:∀ s,stA A' s=stA A s∨(0≤stA A' s∧stA A' s≤6∧stA A' s≠2)) (ht:∀ s,(A'.es s).Es=(A.es s).Es) (hn:A.now≤A'.now∧A'.now≤1000000) (hp:A'.pp.Pairwise (fun a b=>a.1<b.1)) (hq:∀ s t,A'.ts s=some t→A.ts s=some t∨(0≤t.at_∧t.at_≤1000000)) (hl:A'.pp.length≤d.length):WA p d A':=by
 have h2:∀ s,stA A' s=2→stA A s=2:=fun s e=>by
  rcases hs s with h1 | h1
  ·rw [← h1];exact e
  ·exact absurd e h1.2.2
 have htm:=h.tm
 refine ⟨fun s=>?_,fun x hx e=>?_,fun x hx y hy e f=>h.ex x hx y hy (h2 _ e) (h2 _ f),⟨by omega,hn.2⟩,fun x hx=>?_,hp,fun s t e=>(hq s t e).elim (h.tt s t) id,hl⟩
 ·rcases hs s with h1 | h1
  ·rw [h1];exact h.st s
  ·exact ⟨h1.1,h1.2.1⟩
 ·have:=h.fr x hx (h2 _ e);omega
 ·rw [ht];exact h.to x hx
theorem WA.mono {p:ax} {d d':List cu} {A:AO} (h:WA p d A) (hd:∀ v ∈ d,v ∈ d') (hl:d.length≤d'.length):WA p d' A :=
 ⟨h.st,h.fr,h.ex,h.tm,fun x hx=>(h.to x hx).imp id fun ⟨v,hv,e⟩=>⟨v,hd v hv,e⟩,h.pp,h.tt,by have:=h.pl;omega⟩
theorem WA.snoc {p:ax} {d:List cu} {A:AO} {x:cu} (h:WA p d A):WA p (d ++ [x]) A:=h.mono (fun v hv=>List.mem_append_left _ hv) (by simp)
theorem Xn {A:AO} {n s:Str} {e:ai}:(ZP A n e).es s=if s=n then e else A.es s:=bifD
theorem UC {A:AO} {n s:Str} {e:ai}:stA (ZP A n e) s=if s=n then e.state else stA A s:=by
 unfold stA;rw [Xn];split <;> rfl
theorem WA.up {p:ax} {d:List cu} {A:AO} {n:Str} {e:ai} (h:WA p d A) (he:0≤e.state∧e.state≤6) (h2:e.state=2→∀ x ∈ p.aO,x.Name=n→x.From≤A.now∧∀ y ∈ p.aO,stA A y.Name=2→xN p x y=false) (ht:e.Es=(A.es n).Es∨∃ v ∈ d,v.Op=11∧v.Name=n∧v.To=e.Es):WA p d (ZP A n e):=by
 refine ⟨fun s=>?_,fun x hx=>?_,fun x hx y hy=>?_,h.tm,fun x hx=>?_,h.pp,h.tt,h.pl⟩
 ·rw [UC];split
  ·exact he
  ·exact h.st s
 ·rw [UC];split
  ·rename_i hn;intro e2;exact (h2 e2 x hx hn).1
  ·intro e2;exact h.fr x hx e2
 ·rw [UC,UC]
  split
  ·rename_i hn
   split
   ·rename_i hm;intro _ _;unfold xN;rw [dT (hn.trans hm.symm)];rfl
   ·intro e2 f2;exact (h2 e2 x hx hn).2 y hy f2
  ·split
   ·rename_i hm;intro e2 f2;rw [N7];exact (h2 f2 y hy hm).2 x hx e2
   ·exact h.ex x hx y hy
 ·rw [Xn]
  split
  ·rename_i hn
   rcases ht with ht | ⟨v,hv,a,b,c⟩
   ·rw [ht,← hn];exact h.to x hx
   ·exact .inr ⟨v,hv,a,b.trans hn.symm,c⟩
  ·exact h.to x hx
theorem Ze {p:ax} {A:AO} {s:Str}:stA (Jh p A) s=stA A s∨(stA (Jh p A) s=6∧stA A s≤3∧(A.es s).Es≤A.now):=by
 unfold stA Jh QH
 simp only []
 cases pF p s with
 | false=>exact .inl rfl
 | true =>
  rw [kS]
  by_cases h:(A.es s).state≤3
  ·rw [dT h]
   by_cases h1:(A.es s).Es≤A.now
   ·rw [dT h1];exact .inr ⟨rfl,h,h1⟩
   ·rw [dF h1];exact .inl rfl
  ·rw [dF h];exact .inl rfl
theorem exp_to {p:ax} {A:AO} {s:Str}:((Jh p A).es s).Es=(A.es s).Es:=by
 unfold Jh QH
 simp only []
 cases pF p s with
 | false=>rfl
 | true=>rw [kS];cases (decide ((A.es s).state≤3)&&decide ((A.es s).Es≤A.now)) <;> rfl
theorem exp_li {p:ax} {A:AO} {s:Str} (hs:pF p s=true) (h:stA (Jh p A) s≤3):A.now<(A.es s).Es:=by
 unfold stA Jh QH at h
 simp only [] at h
 rw [hs,kS] at h
 by_cases h3:(A.es s).state≤3
 ·rw [dT h3] at h
  by_cases h1:(A.es s).Es≤A.now
  ·rw [dT h1] at h;simp at h
  ·omega
 ·rw [dF h3] at h;simp at h;omega
theorem Tf {p:ax} {A:AO} {s:Str}:(stA (Ht p A) s=stA A s∧¬ (pF p s=true∧stA A s=2∧DY p A (xK p s)=true))∨(stA (Ht p A) s=3∧stA A s=2∧DY p A (xK p s)=true):=by
 have e:stA (Ht p A) s=(bif pF p s&&decide (stA A s=2)&&DY p A (xK p s) then ({ A.es s with state:=3 }:ai) else A.es s).state:=rfl
 rw [e]
 cases h1:pF p s with
 | false=>exact .inl ⟨rfl,fun h=>by cases h.1⟩
 | true =>
  by_cases h2:stA A s=2
  ·rw [dT h2]
   cases h3:DY p A (xK p s) with
   | false=>exact .inl ⟨rfl,fun h=>by cases h.2.2⟩
   | true=>exact .inr ⟨rfl,h2,rfl⟩
  ·rw [dF h2];exact .inl ⟨rfl,fun h=>h2 h.2.1⟩
theorem sus_to {p:ax} {A:AO} {s:Str}:((Ht p A).es s).Es=(A.es s).Es:=by
 unfold Ht
 simp only []
 cases (pF p s&&decide (stA A s=2)&&DY p A (xK p s)) <;> rfl
theorem MZ {p:ax} {A:AO} {s:Str}:stA (iY p A) s=stA A s∨((stA (iY p A) s=6∨stA (iY p A) s=3)∧stA A s≤3):=by
 unfold iY
 rcases Tf (p:=p) (A:=Jh p A) (s:=s) with ⟨h1,_⟩ | ⟨h1,h2,_⟩
 ·rw [h1];rcases Ze (p:=p) (A:=A) (s:=s) with h | h
  ·exact .inl h
  ·exact .inr ⟨.inl h.1,h.2.1⟩
 ·refine .inr ⟨.inr h1,?_⟩
  rcases Ze (p:=p) (A:=A) (s:=s) with h | h
  ·rw [← h,h2];decide
  ·exact h.2.1
theorem MR {p:ax} {A:AO} {s:Str}:((iY p A).es s).Es=(A.es s).Es:=sus_to.trans exp_to
theorem WA.settle {p:ax} {d:List cu} {A:AO} (h:WA p d A):WA p d (iY p A) :=
 h.le (fun s=>(MZ (p:=p) (A:=A) (s:=s)).imp id fun ⟨h1,_⟩=>by rcases h1 with h1 | h1 <;> rw [h1] <;> decide) (fun s=>MR) ⟨Int.le_refl _,h.tm.2⟩ h.pp (fun s t e=>.inl e) h.pl
theorem XC {p:ax} (hp:QG p) {A:AO} {x:aQ} (hx:x ∈ p.aO) (hk:x.Kind=5):DY p A x=false:=by
 have h1:Kr p x=[]:=by unfold Kr LX;rw [hk];rfl
 have h2:x.Locks=[]:=by
  cases hl:x.Locks with
  | nil=>rfl
  | cons l r=>exact absurd hk (hp.lk x hx l (by rw [hl];exact List.mem_cons_self)).2.2
 unfold DY Kt NW
 rw [h1,h2];rfl
theorem jWn {A:AO} {x:aQ}:(NW A x).isEmpty=true↔∀ l ∈ x.Locks,stA A l=2:=by
 unfold NW
 rw [List.isEmpty_iff,List.filter_eq_nil_iff]
 constructor
 ·intro h l hl;have:=h l hl;simpa using this
 ·intro h l hl;rw [h l hl];decide
theorem LY {p:ax} (hp:QG p) {A:AO} {x:aQ} (hx:x ∈ p.aO) (h2:stA (iY p A) x.Name=2):DY p (iY p A) x=false:=by
 unfold iY at h2 ⊢
 have hh:pF p x.Name=true:=DU.2 ⟨x,hx,rfl⟩
 rcases Tf (p:=p) (A:=Jh p A) (s:=x.Name) with ⟨h,hn⟩ | ⟨h,_⟩
 ·rw [h] at h2
  have hb:DY p (Jh p A) x=false:=by
   rw [hp.NY hx] at hn
   cases hb:DY p (Jh p A) x with
   | false=>rfl
   | true=>exact absurd ⟨hh,h2,hb⟩ hn
  unfold DY at hb ⊢
  rw [Bool.or_eq_false_iff] at hb ⊢
  refine ⟨hb.1,?_⟩
  have hb2:=hb.2
  rw [Bool.not_eq_false',jWn] at hb2 ⊢
  intro l hl
  obtain ⟨h5,h6,_⟩:=hp.lk x hx l hl
  rcases Tf (p:=p) (A:=Jh p A) (s:=l) with ⟨h7,_⟩ | ⟨_,_,h7⟩
  ·rw [h7];exact hb2 l hl
  ·rw [XC hp (CB h5).1 h6] at h7;cases h7
 ·rw [h] at h2;cases h2
theorem Uw {p:ax} {A:AO} {s:Str} (hs:pF p s=true) (h:stA (iY p A) s≤3):A.now<((iY p A).es s).Es:=by
 rw [MR]
 unfold iY at h
 refine exp_li hs ?_
 rcases Tf (p:=p) (A:=Jh p A) (s:=s) with ⟨h1,_⟩ | ⟨h1,h2,_⟩
 ·rw [h1] at h;exact h
 ·rw [h2];decide
theorem JY {p:ax} (hp:QG p) {d:List cu} {A:AO} (h:WA p d A):VB p { iY p A with done:=d } :=
 ⟨⟨h.settle.st,h.settle.fr,h.settle.ex,h.settle.tm,h.settle.to,h.settle.pp,h.settle.tt,h.settle.pl⟩,fun x hx e=>LY hp (A:=A) hx e,fun x hx e=>Uw (A:=A) (DU.2 ⟨x,hx,rfl⟩) e⟩
theorem jWp {p:ax} {A:AO} {x:aQ} (h:QI p A x=[]):x.From≤A.now∧∀ y ∈ p.aO,stA A y.Name=2→xN p y x=false:=by
 unfold QI at h
 obtain ⟨h1,h2⟩:=List.append_eq_nil_iff.1 h
 constructor
 ·by_cases hf : A.now < x.From
  ·rw [dT hf] at h1;cases h1
  ·omega
 ·intro y hy e
  rw [List.filter_eq_nil_iff] at h2
  have:=h2 (⟨20,rC p A (fun y=>xN p y x)⟩:dG) (by simp)
  have h3:rC p A (fun y=>xN p y x)=[]:=by simpa using this
  unfold rC at h3
  rw [List.map_eq_nil_iff,List.filter_eq_nil_iff] at h3
  have:=h3 y hy
  rw [dT e] at this
  simpa using this
theorem ZT {q:Str×Str} {n s:Str}:∀ {l:List (Str×Str)},q ∈ PN l n s→q=(n,s)∨q ∈ l
 | [],h=>by simpa [PN] using h
 | a :: r,h=>by
  unfold PN at h
  cases hd:decide (a.1<n) with
  | false=>rw [hd,kG] at h;simpa using h
  | true =>
   rw [hd,kS] at h
   rcases List.mem_cons.1 h with rfl | h
   ·exact .inr List.mem_cons_self
   ·exact (ZT h).imp id fun h=>List.mem_cons_of_mem _ h
theorem ZU {n s:Str}:∀ {l:List (Str×Str)},(PN l n s).length=l.length+1
 | []=>rfl
 | a :: r=>by
  unfold PN
  cases decide (a.1<n) with
  | true=>rw [kS,List.length_cons,ZU,List.length_cons]
  | false=>rfl
theorem Ti {n s : Str} : ∀ {l : List (Str × Str)}, (l.any fun q => decide (q.1 = n)) = false → l.Pairwise (fun a b => a.1 < b.1) → (PN l n s).Pairwise (fun a b => a.1 < b.1)
  | [],_,_=>by simp [PN]
  | a :: r,hn,h=>by
    rw [List.any_cons,Bool.or_eq_false_iff,decide_eq_false_iff_not] at hn
    rw [List.pairwise_cons] at h
    unfold PN
    cases hd:decide (a.1<n) with
    | false =>
      rw [kG,List.pairwise_cons]
      rw [decide_eq_false_iff_not] at hd
      have hlt:n<a.1:=by
        rcases List.le_iff_lt_or_eq.1 (show n≤a.1 from hd) with h1 | h1
        · exact h1
        · exact absurd h1.symm hn.1
      refine ⟨fun q hq=>?_,List.pairwise_cons.2 h⟩
      rcases List.mem_cons.1 hq with rfl | hq
      · exact hlt
      · exact List.lt_trans hlt (h.1 q hq)
    | true =>
      rw [decide_eq_true_eq] at hd
      rw [kS,List.pairwise_cons]
      refine ⟨fun q hq=>?_,Ti hn.2 h.2⟩
      rcases ZT hq with rfl | hq
      · exact hd
      · exact h.1 q hq
def StepA (p:ax) (A:AO) (x:cu) (r:AO×List Str×Int):Prop :=
 (r.2.2≠0→r.1=A)∧(∀ d,WA p d A→WA p (d ++ [x]) r.1)∧r.1.now=A.now∧r.1.done=A.done ∧
 (∀ s,stA A s ≥ 4→stA r.1 s=stA A s)∧(∀ s,stA r.1 s=2→stA A s≠2→(x.Op=2∨x.Op=4)∧x.Name=s∧r.2.2=0)
theorem tN {p:ax} {A:AO} {x:cu} {e:Int} {l:List Str}:StepA p A x (CJ A e l) :=
 ⟨fun _=>rfl,fun d h=>h.snoc,rfl,rfl,fun _ _=>rfl,fun s h1 h2=>absurd h1 h2⟩
theorem step_up {p:ax} {A:AO} {x:cu} {n:Str} {e:ai} (h4:stA A n≤3) (he:0≤e.state∧e.state≤6) (h2:∀ d,WA p d A→e.state=2→∀ x ∈ p.aO,x.Name=n→x.From≤A.now∧∀ y ∈ p.aO,stA A y.Name=2→xN p x y=false) (ht:e.Es=(A.es n).Es∨(x.Op=11∧x.Name=n∧x.To=e.Es)) (ho:e.state=2→stA A n≠2→(x.Op=2∨x.Op=4)∧x.Name=n):StepA p A x (Ji (ZP A n e)):=by
 refine ⟨fun h=>absurd rfl h,fun d h=>?_,rfl,rfl,fun s hs=>?_,fun s h1 hne=>?_⟩
 ·exact h.snoc.up he (fun e2=>h2 d h e2) (ht.imp id fun ⟨a,b,c⟩=>⟨x,List.mem_append_right _ (List.mem_singleton_self _),a,b,c⟩)
 ·show stA (ZP A n e) s=_
  rw [UC]
  split
  ·rename_i h;subst h;omega
  ·rfl
 ·have h1':stA (ZP A n e) s=2:=h1
  rw [UC] at h1'
  split at h1'
  ·rename_i h;subst h;exact ⟨(ho h1' hne).1,(ho h1' hne).2,rfl⟩
  ·exact absurd h1' hne
theorem VP {p:ax} {A:AO} {x:cu} {n:Str} {k:Int} (h4:stA A n≤3) (hk:0≤k∧k≤6) (h2:k≠2):StepA p A x (Ji (beA A n k)) :=
 step_up h4 hk (fun d _ e=>absurd e h2) (.inl rfl) (fun e=>absurd e h2)
theorem Na {p:ax} {A A':AO} {x:cu} (he:A'.es=A.es) (hn:A'.now=A.now) (hd:A'.done=A.done) (hp:A.pp.Pairwise (fun a b=>a.1<b.1)→A'.pp.Pairwise (fun a b=>a.1<b.1)) (hq:0≤A.now∧A.now≤1000000→∀ s t,A'.ts s=some t→A.ts s=some t∨(0≤t.at_∧t.at_≤1000000)) (hl:A'.pp.length≤A.pp.length+1):StepA p A x (Ji A'):=by
 have hs:∀ s,stA A' s=stA A s:=fun s=>by unfold stA;rw [he]
 refine ⟨fun h=>absurd rfl h,fun d h=>?_,hn,hd,fun s _=>hs s,fun s h1 h2=>absurd ((hs s).symm.trans h1) h2⟩
 exact h.snoc.le (fun s=>.inl (hs s)) (fun s=>by show (A'.es s).Es=_;rw [he]) ⟨by show A.now≤A'.now;omega,by have:=h.tm;show A'.now≤_;omega⟩ (hp h.pp) (hq h.tm) (by have:=h.pl;rw [List.length_append];simp only [List.length_singleton];show A'.pp.length≤_;omega)
theorem Tj {p:ax} (hp:QG p) {A:AO} {x:cu} (ho:x.Op=2∨x.Op=4) (h4:stA A x.Name≤3) (hh:pF p x.Name=true):StepA p A x (IE p A x):=by
 unfold IE
 cases lD x.Person with
 | false=>exact tN
 | true =>
  cases decide (x.Person=(A.es x.Name).N9) with
  | true=>exact tN
  | false =>
   simp only [Bool.not_true,kG]
   cases hw:QI p A (xK p x.Name) with
   | cons r l=>exact tN
   | nil =>
    refine step_up h4 (by simp) (fun d hd _ y hy hn=>?_) (.inl rfl) (fun _ _=>⟨ho,rfl⟩)
    have hy2:xK p x.Name=y:=by rw [← hn];exact hp.NY hy
    rw [hy2] at hw
    obtain ⟨h1,h2⟩:=jWp hw
    exact ⟨h1,fun z hz e=>by rw [N7];exact h2 z hz e⟩
theorem XB {p:ax} (hp:QG p) {A:AO} {x:cu} (h0:0≤x.Op) (h12:x.Op<12):StepA p A x (OM p A x):=by
  have hop:x.Op=0∨x.Op=1∨x.Op=2∨x.Op=3∨x.Op=4∨x.Op=5∨x.Op=6∨x.Op=7∨x.Op=8∨x.Op=9∨x.Op=10∨x.Op=11:=by omega
  have acts:∀ {l:List Int} {R:AO×List Str×Int},(∀ k ∈ l,k≤3)→(pF p x.Name=true→stA A x.Name ∈ l→stA A x.Name≤3→StepA p A x R)→StepA p A x (bif !pF p x.Name then CJ A 6 [] else bif !l.contains (stA A x.Name) then CJ A 18 [] else R):=by
    intro l R hl hR
    cases hh:pF p x.Name with
    | false=>exact tN
    | true =>
      cases hc:l.contains (stA A x.Name) with
      | false=>exact tN
      | true =>
        have hm:stA A x.Name ∈ l:=by simpa using hc
        exact hR hh hm (hl _ hm)
  unfold OM FP Xz
  rcases hop with h | h | h | h | h | h | h | h | h | h | h | h <;> simp only [h,if_true,if_false,Int.reduceEq]
  · exact Na rfl rfl rfl id (fun _ s t e=>.inl e) (Nat.le_succ _)
  · refine acts (by decide) fun hh hm h4 => ?_
    unfold Jj
    cases lD x.Person with
    | false=>exact tN
    | true=>exact step_up h4 (by simp) (fun _ _ e=>by cases e) (.inl rfl) (fun e=>by cases e)
  · exact acts (by decide) fun hh hm h4=>Tj hp (.inl h) h4 hh
  · exact acts (by decide) fun hh hm h4=>VP h4 (by decide) (by decide)
  · exact acts (by decide) fun hh hm h4=>Tj hp (.inr h) h4 hh
  · refine acts (by decide) fun hh hm h4 => ?_
    unfold MW
    simp only []
    cases (decide ((xK p x.Name).Kind=5) && !(rC p A (fun z=>BV z.Locks (xK p x.Name).Name)).isEmpty) with
    | true=>exact tN
    | false =>
      rw [kG]
      cases (decide ((xK p x.Name).Kind=1)&&decide (stA A (xK p x.Name).Name=2)&&(Dj p (xK p x.Name).Space).fU&&(rC p A (fun z=>decide (z.Kind=1)&&decide (z.Space=(xK p x.Name).Space) && !decide (z.Name=(xK p x.Name).Name))).isEmpty && !(D7 A (fun s=>decide (s=(xK p x.Name).Space))).isEmpty) with
      | true=>exact tN
      | false=>exact VP h4 (by decide) (by decide)
  · exact acts (by decide) fun hh hm h4=>VP h4 (by decide) (by decide)
  · unfold gasA
    cases DX p x.Space with
    | false=>exact tN
    | true =>
      cases (decide (x.Bo<0)||decide (1000<x.Bo)||decide (x.V7<0)||decide (1000<x.V7)) with
      | true=>exact tN
      | false =>
        refine Na rfl rfl rfl id (fun hn s t e=>?_) (Nat.le_succ _)
        simp only [] at e
        cases hd:decide (s=x.Space) with
        | true=>rw [hd,kS] at e;cases e;exact .inr hn
        | false=>rw [hd,kG] at e;exact .inl e
  · unfold VK
    cases lD x.Person with
    | false=>exact tN
    | true =>
      cases DX p x.Space with
      | false=>exact tN
      | true =>
        cases hi:JX A x.Person with
        | true=>exact tN
        | false =>
          simp only [Bool.not_true,kG]
          cases ((Dj p x.Space).fU && !FT p A x.Space) with
          | true=>exact tN
          | false =>
            rw [kG]
            cases (!(rC p A (fun y=>decide (y.Kind=3)&&decide (rQ p y.Space x.Space≤1))).isEmpty) with
            | true=>exact tN
            | false=>exact Na rfl rfl rfl (fun hpp=>Ti hi hpp) (fun _ s t e=>.inl e) (Nat.le_of_eq ZU)
  · unfold VL
    cases lD x.Person with
    | false=>exact tN
    | true =>
      cases JX A x.Person with
      | false=>exact tN
      | true=>exact Na rfl rfl rfl (fun hpp=>hpp.filter _) (fun _ s t e=>.inl e) (Nat.le_succ_of_le (List.length_filter_le _ _))
  · unfold VN
    cases DX p x.Space with
    | false=>exact tN
    | true =>
      simp only [Bool.not_true,kG]
      have hs:∀ s,stA { A with es:=fun s=>bif pF p s&&decide (stA A s=2)&&(!decide ((xK p s).Kind=5)&&decide (rQ p (xK p s).Space x.Space≤1)) then { A.es s with state:=3 } else A.es s } s=stA A s∨(stA { A with es:=fun s=>bif pF p s&&decide (stA A s=2)&&(!decide ((xK p s).Kind=5)&&decide (rQ p (xK p s).Space x.Space≤1)) then { A.es s with state:=3 } else A.es s } s=3∧stA A s=2):=by
        intro s
        unfold stA
        simp only []
        cases pF p s with
        | false=>exact .inl rfl
        | true =>
          by_cases h2:(A.es s).state=2
          · rw [dT h2]
            cases (!decide ((xK p s).Kind=5)&&decide (rQ p (xK p s).Space x.Space≤1)) with
            | false=>exact .inl rfl
            | true=>exact .inr ⟨rfl,h2⟩
          · rw [dF h2];exact .inl rfl
      refine ⟨fun h=>absurd rfl h,fun d hd=>?_,rfl,rfl,fun s h4=>?_,fun s h1 h2=>?_⟩
      · refine hd.snoc.le (fun s => (hs s).imp id fun h => by show _ ∧ _ ∧ _; rw [show stA (Ji _).1 s = 3 from h.1]; decide) (fun s => ?_) ⟨Int.le_refl _, hd.tm.2⟩ hd.pp (fun s t e => .inl e) hd.snoc.pl
        show (bif _ then ({ A.es s with state:=3 }:ai) else A.es s).Es=_
        cases (pF p s&&decide (stA A s=2)&&(!decide ((xK p s).Kind=5)&&decide (rQ p (xK p s).Space x.Space≤1))) <;> rfl
      · rcases hs s with h | h
        · exact h
        · omega
      · rcases hs s with h | h
        · exact absurd (h.symm.trans h1) h2
        · exact absurd h.2 h2
  · refine acts (by decide) fun hh hm h4 => ?_
    unfold Q7
    cases lD x.Person with
    | false=>exact tN
    | true =>
      cases (decide (x.To≤(A.es x.Name).Es)||decide (1000000<x.To)) with
      | true=>exact tN
      | false =>
        have hm':stA A x.Name=1∨stA A x.Name=2∨stA A x.Name=3:=by simpa using hm
        refine step_up h4 ⟨?_,?_⟩ (fun d hd e y hy hn=>?_) (.inr ⟨h,rfl,rfl⟩) (fun e hne=>absurd e hne)
        · show 0≤stA A x.Name;omega
        · show stA A x.Name≤6;omega
        · have e':stA A x.Name=2:=e
          rw [← hn] at e'
          exact ⟨hd.fr y hy e',fun z hz e2=>hd.ex y hy z hz e' e2⟩
theorem jZb {p:ax} (hp:QG p) {A:AO} {x:cu} (h:VB p A):VB p (TQ p A x).1∧A.now≤(TQ p A x).1.now∧(∀ s,stA A s ≥ 4→stA (TQ p A x).1 s=stA A s)∧(∀ s,stA (TQ p A x).1 s=2→stA A s≠2→(x.Op=2∨x.Op=4)∧x.Name=s∧(TQ p A x).2.2=0):=by
  unfold TQ
  by_cases hr:x.Op<0∨12≤x.Op∨x.At<0∨1000000<x.At
  · have hr' : (decide (x.Op < 0) || decide (12 ≤ x.Op) || decide (x.At < 0) || decide (1000000 < x.At)) = true := by simpa [or_assoc] using hr
    rw [hr']
    exact ⟨h,Int.le_refl _,fun _ _=>rfl,fun s h1 h2=>absurd h1 h2⟩
  · have hr' : (decide (x.Op < 0) || decide (12 ≤ x.Op) || decide (x.At < 0) || decide (1000000 < x.At)) = false := by simp; omega
    rw [hr',kG]
    by_cases ho:x.At<A.now
    · rw [dT ho];exact ⟨h,Int.le_refl _,fun _ _=>rfl,fun s h1 h2=>absurd h1 h2⟩
    rw [dF ho,kG]
    have hw:WA p A.done { A with now:=x.At }:=h.w.le (fun s=>.inl rfl) (fun _=>rfl) ⟨by show A.now≤x.At;omega,by show x.At≤1000000;omega⟩ h.w.pp (fun s t e=>.inl e) h.w.pl
    have hi:=JY hp hw
    have hset:∀ s,stA (iY p { A with now:=x.At }) s=stA A s∨((stA (iY p { A with now:=x.At }) s=6∨stA (iY p { A with now:=x.At }) s=3)∧stA A s≤3):=fun s=>MZ (p:=p) (A:={ A with now:=x.At }) (s:=s)
    obtain ⟨s1,s2,s3,s4,s5,s6⟩:=XB hp (A:=iY p { A with now:=x.At }) (x:=x) (by omega) (by omega)
    generalize hR:OM p (iY p { A with now:=x.At }) x=R at s1 s2 s3 s4 s5 s6
    simp only []
    by_cases h0:R.2.2=0
    · rw [dT h0,kS]
      have hw2:=s2 _ hi.w
      refine ⟨JY hp (d:=A.done ++ [x]) hw2,?_,fun s hs=>?_,fun s h1 h2=>?_⟩
      · show A.now≤R.1.now
        rw [s3];show A.now≤x.At;omega
      · show stA (iY p R.1) s=stA A s
        have e1:stA (iY p { A with now:=x.At }) s=stA A s:=by
          rcases hset s with e | ⟨_,e⟩
          · exact e
          · omega
        have e2:=s5 s (by omega)
        rcases MZ (p:=p) (A:=R.1) (s:=s) with e | ⟨_,e⟩ <;> omega
      · have h1':stA (iY p R.1) s=2:=h1
        have e2:stA R.1 s=2:=by
          rcases MZ (p:=p) (A:=R.1) (s:=s) with e | ⟨e,_⟩ <;> omega
        have e3:stA (iY p { A with now:=x.At }) s≠2:=by
          rcases hset s with e | ⟨e,_⟩ <;> omega
        obtain ⟨a,b,c⟩:=s6 s e2 e3
        exact ⟨a,b,rfl⟩
    · rw [dF h0,kG]
      have hB:=s1 h0
      rw [hB]
      refine ⟨hi,?_,fun s hs=>?_,fun s h1 h2=>?_⟩
      · show A.now≤x.At;omega
      · rcases hset s with e | ⟨_,e⟩
        · exact e
        · omega
      · exfalso
        rcases hset s with e | ⟨e,_⟩ <;> omega
theorem jWw {p:ax} (hp:QG p):VB p (newA p):=by
 refine JY hp (d:=[]) (A:=⟨0,fun s=>bif pF p s then ⟨0,[],(xK p s).To⟩ else ⟨0,[],0⟩,fun _=>none,[],[]⟩) ⟨fun s=>?_,fun x hx e=>?_,fun x hx y hy e=>?_,(by simp),fun x hx=>?_,List.Pairwise.nil,(fun s t e=>by cases e),Nat.le_refl _⟩
 ·unfold stA;simp only [];cases pF p s <;> simp
 ·exfalso;unfold stA at e;simp only [] at e;cases hh:pF p x.Name <;> rw [hh] at e <;> cases e
 ·exfalso;unfold stA at e;simp only [] at e;cases hh:pF p x.Name <;> rw [hh] at e <;> cases e
 ·refine .inl ?_
  simp only []
  rw [DU.2 ⟨x,hx,rfl⟩,kS,hp.NY hx]
end Go.KB
namespace Go.KB
set_option linter.unusedVariables false
theorem OV {S O:Type} {n N:Nat} {f:S→Option (S ⊕ O)} (I:Nat→S→Prop) (Q:O→Prop) {s0:S} (h0:I 0 s0) (h:∀ i s,i<n→I i s→∃ s',f s=some (.inl s')∧I (i+1) s') (he:∀ s,I n s→∃ o,f s=some (.inr o)∧Q o) (hN:n<N):∃ o,dh f N s0=some o∧Q o:=by
 have key:∀ k i s,i+k=n→I i s→∀ M,k<M→∃ o,dh f M s=some o∧Q o:=by
  intro k
  induction k with
  | zero =>
   intro i s hi hs M hM
   obtain ⟨M,rfl⟩:∃ m,M=m+1:=⟨M - 1,by omega⟩
   have:i=n:=by omega
   subst this
   obtain ⟨o,h1,h2⟩:=he s hs
   exact ⟨o,by simp only [dh,h1],h2⟩
  | succ k ih =>
   intro i s hi hs M hM
   obtain ⟨M,rfl⟩:∃ m,M=m+1:=⟨M - 1,by omega⟩
   obtain ⟨s',h1,h2⟩:=h i s (by omega) hs
   simp only [dh,h1]
   exact ih (i+1) s' (by omega) h2 M (by omega)
 exact key n 0 s0 (by omega) h0 N (by omega)
theorem MX {α β:Type} [DecidableEq α] (x k:α) (y:β):∀ m:List (α×β),qM (tX m x y) k=(decide (k=x)||qM m k)
 | []=>by simp [qM,tX]
 | q :: r=>by
  unfold tX
  by_cases h:x=q.1
  ·rw [dT h,kS];unfold qM;rw [← h];cases decide (k=x) <;> simp
  ·rw [dF h,kG];unfold qM;rw [MX x k y r]
   cases decide (k=q.1) <;> cases decide (k=x) <;> rfl
structure Tc (p:ax) (es:Str→ai) (st:List (Str×ai)):Prop where
 get:∀ s,pF p s=true→jD (⟨0,[],0⟩:ai) st s=es s
 has:∀ s,qM st s=pF p s
theorem Tc.set {p:ax} {es:Str→ai} {st:List (Str×ai)} (h:Tc p es st) {n:Str} (hn:pF p n=true) (e:ai):Tc p (fun s=>bif decide (s=n) then e else es s) (tX st n e):=by
 refine ⟨fun s hs=>?_,fun s=>?_⟩
 ·rw [Jo]
  by_cases he:s=n
  ·rw [if_pos he,dT he];rfl
  ·rw [if_neg he,dF he];exact h.get s hs
 ·rw [MX,h.has]
  by_cases he:s=n
  ·rw [dT he,he,hn];rfl
  ·rw [dF he];rfl
theorem Tc.congr {p:ax} {es es':Str→ai} {st:List (Str×ai)} (h:Tc p es st) (he:∀ s,pF p s=true→es s=es' s):Tc p es' st:=⟨fun s hs=>by rw [h.get s hs,he s hs],h.has⟩
structure RelB (p:ax) (A:AO) (g:ah) (ru:List (Str×au)):Prop where
 plan:g.plan=p
 now:g.now=A.now
 SX:∀ s,qM ru s=(A.ts s).isSome
 SY:∀ s t,A.ts s=some t→jD (⟨0,0,0⟩:au) ru s=t
structure RelA (p:ax) (A:AO) (g:ah) (st:List (Str×ai)) (ru:List (Str×au)) (pe:List (Str×Str)):Prop where
 b:RelB p A g ru
 st:Tc p A.es st
 pe:pe.Perm A.pp
 done:g.done=A.done
structure SS (A:AO):Prop where
 tm:0≤A.now∧A.now≤1000000
 st:∀ s,0≤stA A s∧stA A s≤6
 tt:∀ s t,A.ts s=some t→0≤t.at_∧t.at_≤1000000
 pl:A.pp.length<1000000
theorem WA.bd {p:ax} {d:List cu} {A:AO} (h:WA p d A) (hd:d.length<1000000):SS A:=⟨h.tm,h.st,h.tt,Nat.lt_of_le_of_lt h.pl hd⟩
section
variable {N:Nat} {p:ax} {A:AO} {g:ah} {st:List (Str×ai)} {ru:List (Str×au)} {pe:List (Str×Str)} (hp:NV p) (hN:1000000≤N) (h:RelB p A g ru) (b:SS A)
include hp hN h b
theorem jWr {s:Str}:ul N g st ru pe s=some (jZ8 p A s,jZ9 p A s):=by
 have hs:=hp.s
 unfold ul jZ8 jZ9
 rw [h.plan,Dc (by omega) hN,bS,h.SX s,h.now]
 show (bif !(Dj p s).fU then _ else _)=_
 cases (Dj p s).fU with
 | false=>rfl
 | true =>
  simp only [Bool.not_true,kG]
  cases ht:A.ts s with
  | none=>rfl
  | some t =>
   have h1:=b.tt s t ht
   have h2:=b.tm
   rw [h.SY s t ht,w64i (by omega) (by omega)]
   simp only [Option.isSome_some,Bool.true_and,yA,yV]
theorem Qn {x:aQ} {s:Str}:nO N g st ru pe s x=some (XD p A x s):=by
 unfold nO XD
 rw [jWr hp hN h b,bS,yX]
 cases decide (x.Kind=0) <;> rfl
theorem SV {x:aQ}:oL N g st ru pe x=some (Kt p A x):=by
 have hl:=jVj (x:=x) hp
 unfold oL
 rw [h.plan,jVq hp hN,bS]
 have hi:iw N g st ru pe (Kr p x) x=some (Ku (XD p A x) (Kr p x)):=by
  unfold iw
  refine xW (fun i hi=>?_) ?_ (by omega)
  ·unfold gX
   rw [bM,dT (by omega),kS,jm hi,bS,Qn hp hN h b,bS,oJ (by omega)]
  ·unfold gX
   rw [bM,dF (by omega),kG]
 have hd:gZ N g st ru pe (Kr p x) x=some (Kt p A x):=by
  unfold gZ
  rw [hi,bS]
  refine del_eq (g:=XD p A x) (fun xs i j hj hij hj2 hm=>?_) (fun xs i=>?_) (by omega) hN
  ·unfold gU
   simp only []
   rw [bM,dT (by omega),kS,jm hj,bS,Qn hp hN h b,bS,oJ (by omega),oJ (by omega),jm (by omega),bS,Int.toNat_natCast]
  ·unfold gU
   simp only []
   rw [bM,dF (by omega),kG]
 rw [hd];rfl
end
theorem NZ {N:Nat} {p:ax} {A:AO} {g:ah} {st:List (Str×ai)} {ru:List (Str×au)} {pe:List (Str×Str)} (hN:1000000≤N) (hst:Tc p A.es st) {n:Str} {l:List Int} (hn:pF p n=true) (hl:l.length<100):fZ N g st ru pe n l=some (l.contains (stA A n)):=by
 unfold fZ
 rw [Jl (by omega) hN,bS,hst.get n hn];rfl
theorem Ql {N:Nat} {p:ax} {A:AO} {g:ah} {st:List (Str×ai)} {ru:List (Str×au)} {pe:List (Str×Str)} (hp:NV p) (hN:1000000≤N) (hst:Tc p A.es st) {x:aQ} (hx:x.Locks.length<1000) (hlk:∀ l ∈ x.Locks,pF p l=true):lZ N g st ru pe x=some (NW A x):=by
 have hlim:lim ≥ 1000000:=by decide
 unfold lZ
 have hc:iy N x.Locks=some x.Locks:=by
  unfold iy
  rw [DW (by simp only [List.length_nil];omega)];rfl
 rw [hc,bS]
 have h1:∀ s,lq N g st ru pe s=some (decide (stA A s=2))∨¬ pF p s=true:=by
  intro s
  by_cases hs:pF p s=true
  ·left
   unfold lq
   rw [NZ hN hst hs (by decide),bS]
   congr 1
   rw [Bool.eq_iff_iff];simp
  ·exact .inr hs
 have h2:∀ s ∈ x.Locks,lq N g st ru pe s=some (decide (stA A s=2)):=fun s hs=>(h1 s).elim id fun hn=>absurd (hlk s hs) hn
 have hi:ig N g st ru pe x.Locks=some (Ku (fun s=>decide (stA A s=2)) x.Locks):=by
  unfold ig
  refine xW (fun i hi=>?_) ?_ (by omega)
  ·unfold gV
   rw [bM,dT (by omega),kS,jm hi,bS,h2 _ (List.getElem_mem hi),bS,oJ (by omega)]
  ·unfold gV
   rw [bM,dF (by omega),kG]
 unfold jf
 rw [hi,bS,del_eq (g:=fun s=>decide (stA A s=2)) (f:=eY N g st ru pe) (fun xs i j hj hij hj2 hm=>?_) (fun xs i=>?_) (by omega) hN]
 ·rfl
 ·unfold eY
  simp only []
  rw [bM,dT (by omega),kS,jm hj,bS,h2 _ hm,bS,oJ (by omega),oJ (by omega),jm (by omega),bS,Int.toNat_natCast]
 ·unfold eY
  simp only []
  rw [bM,dF (by omega),kG]
def N8 (p:ax) (i:Nat) (s:Str):Bool:=(p.aO.take i).any (isP s)
theorem Q8 {p:ax} {s:Str}:N8 p p.aO.length s=pF p s:=by unfold N8 pF;rw [List.take_length]
theorem OW {p:ax} {i:Nat} (hi:i<p.aO.length) {s:Str}:N8 p (i+1) s=(N8 p i s||decide (p.aO[i].Name=s)):=by
 unfold N8;rw [List.take_succ_eq_append_getElem hi,List.any_append];simp [isP]
theorem ZV {p:ax} (ho:QG p) {i:Nat} (hi:i<p.aO.length):N8 p i p.aO[i].Name=false:=by
 unfold N8
 rw [Bool.eq_false_iff]
 intro hx
 rw [List.any_eq_true] at hx
 obtain ⟨y,hy,hg⟩:=hx
 obtain ⟨j,hj,rfl⟩:=List.getElem_of_mem hy
 rw [List.length_take] at hj
 rw [List.getElem_take] at hg
 simp only [isP,decide_eq_true_eq] at hg
 have:=ho.pd j i (by omega) hi (by rw [uX (by omega),uX hi,hg])
 omega
theorem MV {p:ax} {i:Nat} (hi:i<p.aO.length):pF p p.aO[i].Name=true:=DU.2 ⟨_,List.getElem_mem hi,rfl⟩
theorem jVx {N:Nat} {p:ax} {A:AO} {g:ah} {st:List (Str×ai)} {ru:List (Str×au)} {pe:List (Str×Str)} (hp:NV p) (ho:QG p) (hN:1000000≤N) (h:RelB p A g ru) (hst:Tc p A.es st) (b:SS A):∃ st',dh (nM N g ru pe) N (0,st)=some st'∧Tc p (Jh p A).es st':=by
 have hm:=hp.m
 refine OV (n:=p.aO.length) (fun i s=>s.1=(i:Int)∧Tc p (fun s=>bif N8 p i s then QH A.now (A.es s) else A.es s) s.2) _ ⟨rfl,hst.congr fun s _=>by unfold N8;simp⟩ (fun i s hi hs=>?_) (fun s hs=>?_) (by omega)
 ·obtain ⟨s1,st'⟩:=s
  obtain ⟨rfl,hr⟩:=hs
  simp only [] at hr
  have hn:=MV hi
  have he:(bif N8 p i p.aO[i].Name then QH A.now (A.es p.aO[i].Name) else A.es p.aO[i].Name)=A.es p.aO[i].Name:=by rw [ZV ho hi];rfl
  have hg:=hr.get _ hn
  rw [he] at hg
  have hst:=b.st p.aO[i].Name
  unfold stA at hst
  have hc:([0,1,2,3]:List Int).contains (A.es p.aO[i].Name).state=decide ((A.es p.aO[i].Name).state≤3):=by
   rw [Bool.eq_iff_iff];simp;omega
  have hi':fZ N g st' ru pe p.aO[i].Name [0,1,2,3]=some (decide ((A.es p.aO[i].Name).state≤3)):=by
   unfold fZ
   rw [Jl (by decide) hN,bS,hg,hc]
  have hnext:∀ (e:ai),e=QH A.now (A.es p.aO[i].Name)→∀ s,pF p s=true→(bif decide (s=p.aO[i].Name) then e else (bif N8 p i s then QH A.now (A.es s) else A.es s))=(bif N8 p (i+1) s then QH A.now (A.es s) else A.es s):=by
   intro e hee s _
   rw [OW hi]
   by_cases hs:s=p.aO[i].Name
   ·subst hs;rw [dT rfl,Bool.or_true,kS,kS,hee]
   ·rw [dF hs,dF (fun x=>hs x.symm),Bool.or_false];rfl
  unfold nM
  simp only []
  rw [h.plan,bM,dT (by omega),kS,jm hi,bS,hi',bS,hg,yA,h.now,oJ (by omega)]
  cases hx:(decide ((A.es p.aO[i].Name).state≤3)&&decide ((A.es p.aO[i].Name).Es≤A.now)) with
  | true =>
   refine ⟨_,rfl,rfl,?_⟩
   rw [hg]
   exact (hr.set hn _).congr (hnext _ (by unfold QH;rw [hx];rfl))
  | false =>
   refine ⟨_,rfl,rfl,?_⟩
   refine hr.congr fun s hs=>?_
   rw [← hnext _ rfl s hs]
   by_cases he2:s=p.aO[i].Name
   ·subst he2;rw [dT rfl,kS,he];unfold QH;rw [hx];rfl
   ·rw [dF he2];rfl
 ·obtain ⟨s1,st'⟩:=s
  obtain ⟨rfl,hr⟩:=hs
  unfold nM
  simp only []
  rw [h.plan,bM,dF (by omega),kG]
  exact ⟨_,rfl,hr.congr fun s _=>by rw [Q8];rfl⟩
theorem jWs {p:ax} (ho:QG p) {B:AO} {l:Str} (hl:pF p l=true) (hk:(xK p l).Kind=5):(Ht p B).es l=B.es l:=by
 show (bif pF p l&&decide (stA B l=2)&&DY p B (xK p l) then ({ B.es l with state:=3 }:ai) else B.es l)=_
 rw [XC ho (CB hl).1 hk,Bool.and_false];rfl
theorem gt0 {α:Type} {l:List α}:aC .gtr (List.length l:Int) 0 = !l.isEmpty:=by
 rw [rP]
 cases l with
 | nil=>rfl
 | cons x r=>simp
theorem XE {N:Nat} {p:ax} {B:AO} {g:ah} {st:List (Str×ai)} {ru:List (Str×au)} {pe:List (Str×Str)} (hp:NV p) (ho:QG p) (hN:1000000≤N) (h:RelB p B g ru) (hst:Tc p B.es st) (b:SS B):∃ o:Bool×List (Str×ai),dh (lK N g ru pe) N (false,0,st)=some o∧Tc p (Ht p B).es o.2∧o.1=p.aO.any (fun x=>decide (stA B x.Name=2)&&DY p B x):=by
 have hm:=hp.m
 refine OV (n:=p.aO.length) (fun i s=>s.2.1=(i:Int)∧Tc p (fun s=>bif N8 p i s then (Ht p B).es s else B.es s) s.2.2∧s.1=(p.aO.take i).any (fun x=>decide (stA B x.Name=2)&&DY p B x)) _ ⟨rfl,hst.congr fun s _=>by unfold N8;simp,by simp⟩ (fun i s hi hs=>?_) (fun s hs=>?_) (by omega)
 ·obtain ⟨fl,s1,st'⟩:=s
  obtain ⟨rfl,hr,rfl⟩:=hs
  simp only [] at hr
  have hx:=List.getElem_mem hi
  have hn:=MV hi
  have he:(bif N8 p i p.aO[i].Name then (Ht p B).es p.aO[i].Name else B.es p.aO[i].Name)=B.es p.aO[i].Name:=by rw [ZV ho hi];rfl
  have hg:=hr.get _ hn
  rw [he] at hg
  have hi':fZ N g st' ru pe p.aO[i].Name [2]=some (decide (stA B p.aO[i].Name=2)):=by
   unfold fZ
   rw [Jl (by decide) hN,bS,hg]
   congr 1
   unfold stA
   rw [Bool.eq_iff_iff];simp
  have hlk:lZ N g st' ru pe p.aO[i]=some (NW B p.aO[i]):=by
   rw [Ql (A:={ B with es:=fun s=>bif N8 p i s then (Ht p B).es s else B.es s }) hp hN hr (hp.l _ hx) (fun l hl=>(ho.lk _ hx l hl).1)]
   congr 1
   unfold NW
   refine List.filter_congr fun l hl=>?_
   have:=ho.lk _ hx l hl
   have e:stA { B with es:=fun s=>bif N8 p i s then (Ht p B).es s else B.es s } l=stA B l:=by
    show (bif N8 p i l then (Ht p B).es l else B.es l).state=_
    rw [jWs ho this.1 this.2.1]
    cases N8 p i l <;> rfl
   rw [e]
  have hnext:∀ (e:ai),e=(Ht p B).es p.aO[i].Name→∀ s,pF p s=true→(bif decide (s=p.aO[i].Name) then e else (bif N8 p i s then (Ht p B).es s else B.es s))=(bif N8 p (i+1) s then (Ht p B).es s else B.es s):=by
   intro e hee s _
   rw [OW hi]
   by_cases hs:s=p.aO[i].Name
   ·subst hs;rw [dT rfl,Bool.or_true,kS,kS,hee]
   ·rw [dF hs,dF (fun x=>hs x.symm),Bool.or_false];rfl
  have hsus:(Ht p B).es p.aO[i].Name=(bif decide (stA B p.aO[i].Name=2)&&DY p B p.aO[i] then ({ B.es p.aO[i].Name with state:=3 }:ai) else B.es p.aO[i].Name):=by
   show (bif pF p p.aO[i].Name&&decide (stA B p.aO[i].Name=2)&&DY p B (xK p p.aO[i].Name) then ({ B.es p.aO[i].Name with state:=3 }:ai) else B.es p.aO[i].Name)=_
   rw [hn,ho.NY hx,Bool.true_and]
  have hany:(p.aO.take (i+1)).any (fun x=>decide (stA B x.Name=2)&&DY p B x)=((p.aO.take i).any (fun x=>decide (stA B x.Name=2)&&DY p B x)||(decide (stA B p.aO[i].Name=2)&&DY p B p.aO[i])):=by
   rw [List.take_succ_eq_append_getElem hi,List.any_append];simp
  have hsame:(decide (stA B p.aO[i].Name=2)&&DY p B p.aO[i])=false→Tc p (fun s=>bif N8 p (i+1) s then (Ht p B).es s else B.es s) st':=fun hb=>hr.congr fun s hs=>by
   rw [← hnext _ rfl s hs]
   by_cases he2:s=p.aO[i].Name
   ·subst he2;rw [dT rfl,kS,he,hsus,hb];rfl
   ·rw [dF he2];rfl
  have hset:(decide (stA B p.aO[i].Name=2)&&DY p B p.aO[i])=true→Tc p (fun s=>bif N8 p (i+1) s then (Ht p B).es s else B.es s) (tX st' p.aO[i].Name ({ B.es p.aO[i].Name with state:=3 }:ai)):=fun hb =>
   (hr.set hn _).congr (hnext _ (by rw [hsus,hb];rfl))
  unfold lK
  simp only []
  rw [h.plan,bM,dT (by omega),kS,jm hi,bS,hi',bS,oJ (by omega),hany]
  by_cases h2:stA B p.aO[i].Name=2
  ·rw [dT h2] at hsame hset ⊢
   simp only [kS,Bool.true_and] at hsame hset ⊢
   rw [SV hp hN h b,bS,gt0]
   unfold DY at hsame hset ⊢
   cases hla:(Kt p B p.aO[i]).isEmpty with
   | false =>
    rw [hla] at hset
    simp only [Bool.not_false,Bool.true_or,Bool.or_true,Bool.not_true,kG,kS,bS] at hset ⊢
    refine ⟨_,rfl,rfl,?_,rfl⟩
    rw [hg];exact hset trivial
   | true =>
    rw [hla] at hset hsame
    simp only [Bool.not_false,Bool.false_or,Bool.not_true,kS,hlk,bS,gt0] at hset hsame ⊢
    cases hu:(NW B p.aO[i]).isEmpty with
    | false =>
     rw [hu] at hset
     refine ⟨_,rfl,rfl,?_,by simp⟩
     rw [hg];exact hset rfl
    | true =>
     rw [hu] at hsame
     exact ⟨_,rfl,rfl,hsame rfl,by simp⟩
  ·rw [dF h2] at hsame ⊢
   exact ⟨_,rfl,rfl,hsame rfl,by simp⟩
 ·obtain ⟨fl,s1,st'⟩:=s
  obtain ⟨rfl,hr,rfl⟩:=hs
  unfold lK
  simp only []
  rw [h.plan,bM,dF (by omega),kG]
  exact ⟨_,rfl,hr.congr fun s hs=>by rw [Q8,hs];rfl,by rw [List.take_length]⟩
theorem SS.exp {p:ax} {A:AO} (b:SS A):SS (Jh p A):=⟨b.tm,fun s=>by
 rcases Ze (p:=p) (A:=A) (s:=s) with e | ⟨e,_⟩ <;> rw [e]
 ·exact b.st s
 ·decide,b.tt,b.pl⟩
theorem SS.sus {p:ax} {A:AO} (b:SS A):SS (Ht p A):=⟨b.tm,fun s=>by
 rcases Tf (p:=p) (A:=A) (s:=s) with ⟨e,_⟩ | ⟨e,_⟩ <;> rw [e]
 ·exact b.st s
 ·decide,b.tt,b.pl⟩
theorem SS.settle {p:ax} {A:AO} (b:SS A):SS (iY p A):=b.exp.sus
theorem PS {N:Nat} {p:ax} {A:AO} {g:ah} {st:List (Str×ai)} {ru:List (Str×au)} {pe:List (Str×Str)} (hp:NV p) (ho:QG p) (hN:1000000≤N) (h:RelB p A g ru) (hst:Tc p A.es st) (b:SS A):∃ st',lT N g st ru pe=some st'∧Tc p (iY p A).es st':=by
 unfold lT
 obtain ⟨s1,h1,r1⟩:=jVx (pe:=pe) hp ho hN h hst b
 rw [h1,bS]
 have hE:RelB p (Jh p A) g ru:=⟨h.plan,h.now,h.SX,h.SY⟩
 have hS:RelB p (iY p A) g ru:=⟨h.plan,h.now,h.SX,h.SY⟩
 obtain ⟨⟨f2,s2⟩,h2,r2,e2⟩:=XE (pe:=pe) hp ho hN hE r1 b.exp
 obtain ⟨⟨f3,s3⟩,h3,r3,e3⟩:=XE (pe:=pe) hp ho hN hS r2 b.settle
 have e3':f3=false:=by
  rw [show f3=_ from e3,Bool.eq_false_iff]
  intro hx
  rw [List.any_eq_true] at hx
  obtain ⟨x,hx,hb⟩:=hx
  rw [Bool.and_eq_true,decide_eq_true_eq] at hb
  rw [LY ho hx hb.1] at hb
  cases hb.2
 subst e3'
 obtain ⟨M,rfl⟩:∃ M,N=M+3:=⟨N - 3,by omega⟩
 have step:∀ (st:List (Str×ai)) (o:Bool×List (Str×ai)),dh (lK (M+3) g ru pe) (M+3) (false,0,st)=some o→nN (M+3) g ru pe (true,st)=some (.inl o):=by
  intro st o ho
  unfold nN
  rw [kS,ho];rfl
 have stop:∀ st:List (Str×ai),nN (M+3) g ru pe (false,st)=some (.inr st):=fun st=>rfl
 cases f2 with
 | false =>
  refine ⟨s2,?_,r2⟩
  rw [show M+3=(M+2)+1 from rfl]
  simp only [dh,step _ _ h2,stop];rfl
 | true =>
  refine ⟨s3,?_,r3.congr fun s hs=>?_⟩
  ·simp only [dh,step _ _ h2,step _ _ h3,stop];rfl
  ·show (bif pF p s&&decide (stA (iY p A) s=2)&&DY p (iY p A) (xK p s) then ({ (iY p A).es s with state:=3 }:ai) else (iY p A).es s)=_
   by_cases h2:stA (iY p A) s=2
   ·obtain ⟨hm,hnm⟩:=CB hs
    rw [LY ho hm (by rw [hnm];exact h2),Bool.and_false];rfl
   ·rw [dF h2,Bool.and_false,Bool.false_and];rfl
end Go.KB
namespace Go.KB
set_option linter.unusedVariables false
theorem UA {N:Nat} {l:List dH} {f:dH→Option Bool} {g:dH→Bool} (hf:∀ y,f y=some (g y)) (hl:l.length<1000000) (hN:1000000≤N):jy N l f=some (Ku g l):=by
 unfold jy
 refine xW (fun i hi=>?_) ?_ (by omega)
 ·unfold iV
  rw [bM,dT (by omega),kS,jm hi,bS,hf,bS,oJ (by omega)]
 ·unfold iV
  rw [bM,dF (by omega),kG]
theorem PI {α:Type} {g:α→Bool} {l:List α}:aC .geq (Ku g l) 0=l.any g:=by
 have:=PG (g:=g) (l:=l)
 rw [yV]
 cases h2:l.any g with
 | true=>rw [h2] at this;simp at this;rw [dT (by omega)]
 | false=>rw [h2] at this;simp at this;rw [dF (by omega)]
theorem Qk {N:Nat} {p:ax} {x y:aQ} (hp:NV p) (hN:1000000≤N):wJ N p x y=some (xN p x y):=by
 have hx:=hp.x
 unfold wJ xN
 rw [rD,OU hp hN]
 cases decide (x.Name=y.Name) with
 | true=>rfl
 | false =>
  rw [kG,kG,bS]
  unfold fJ
  rw [UA (g:=fun e=>exE e (rQ p x.Space y.Space) x.Kind y.Kind) (fun e=>by unfold wZ exE;simp only [yA,yX]) (by omega) hN,bS,PI];rfl
theorem cloneS {N:Nat} {l:List dK} (h:l.length<1000):mg N l=some l:=by
 have hlim:lim ≥ 1000000:=by decide
 unfold mg;rw [DW (by simp only [List.length_nil];omega)];rfl
theorem cloneP {N:Nat} {l:List aQ} (h:l.length<1000):lC N l=some l:=by
 have hlim:lim ≥ 1000000:=by decide
 unfold lC;rw [DW (by simp only [List.length_nil];omega)];rfl
theorem cloneE {N:Nat} {l:List dH} (h:l.length<1000):jW N l=some l:=by
 have hlim:lim ≥ 1000000:=by decide
 unfold jW;rw [DW (by simp only [List.length_nil];omega)];rfl
theorem jVz {N:Nat} {l:List Str} (h:l.length<1000):iy N l=some l:=by
 have hlim:lim ≥ 1000000:=by decide
 unfold iy;rw [DW (by simp only [List.length_nil];omega)];rfl
theorem XF {α:Type} {l:List α} {i:Nat} (h:i<l.length):l.set i l[i]=l:=List.set_getElem_self h
theorem jQv {N:Nat} {p:ax} (hp:NV p) (hN:1000000≤N):Aw N p=some p:=by
 have h1:=hp.s
 have h2:=hp.x
 have h3:=hp.m
 unfold Aw
 rw [cloneS h1,cloneE h2,cloneP h3]
 simp only [bS]
 have e2:dh (sK N p.bP) N (0,p.bP)=some p.bP:=Eh (f:=sK N p.bP) (n:=p.bP.length) (fun i=>((i:Int),p.bP)) p.bP (fun i hi=>by
  unfold sK
  simp only []
  rw [bM,dT (by omega),kS,jm hi,bS,jVz (hp.n _ (List.getElem_mem hi)),bS,bS,oJ (by omega),Int.toNat_natCast,XF hi]) (by
  unfold sK
  simp only []
  rw [bM,dF (by omega),kG]) (by omega)
 have e1:dh (sN N p.aO) N (0,p.aO)=some p.aO:=Eh (f:=sN N p.aO) (n:=p.aO.length) (fun i=>((i:Int),p.aO)) p.aO (fun i hi=>by
  unfold sN
  simp only []
  rw [bM,dT (by omega),kS,jm hi,bS,jVz (hp.l _ (List.getElem_mem hi)),bS,bS,oJ (by omega),Int.toNat_natCast,XF hi]) (by
  unfold sN
  simp only []
  rw [bM,dF (by omega),kG]) (by omega)
 rw [e2,e1];rfl
def newE (p:ax):AO:=⟨0,fun s=>bif pF p s then ⟨0,[],(xK p s).To⟩ else ⟨0,[],0⟩,fun _=>none,[],[]⟩
theorem jWt (p:ax):SS (newE p):=⟨⟨by show (0:Int)≤0;omega,by show (0:Int)≤1000000;omega⟩,fun s=>by unfold stA newE;simp only [];cases pF p s <;> simp,(fun s t e=>by cases e),by show 0<1000000;omega⟩
theorem jVv {N:Nat} {p:ax} (hp:NV p) (ho:QG p) (hN:1000000≤N):∃ st,dh (rJ N p) N (0,([]:List (Str×ai)))=some st∧Tc p (newE p).es st:=by
 have hm:=hp.m
 have key:∃ st,dh (rJ N p) N (0,([]:List (Str×ai)))=some st∧(∀ n,N8 p p.aO.length n=true→jD (⟨0,[],0⟩:ai) st n=⟨0,[],(xK p n).To⟩)∧∀ n,qM st n=N8 p p.aO.length n:=by
  refine OV (N:=N) (n:=p.aO.length) (f:=rJ N p) (s0:=(0,([]:List (Str×ai)))) (fun i s=>s.1=(i:Int)∧(∀ n,N8 p i n=true→jD (⟨0,[],0⟩:ai) s.2 n=⟨0,[],(xK p n).To⟩)∧∀ n,qM s.2 n=N8 p i n) (fun st=>(∀ n,N8 p p.aO.length n=true→jD (⟨0,[],0⟩:ai) st n=⟨0,[],(xK p n).To⟩)∧∀ n,qM st n=N8 p p.aO.length n) ⟨rfl,fun n h=>by unfold N8 at h;simp at h,fun n=>by unfold N8;simp [qM]⟩ (fun i s hi hs=>?_) (fun s hs=>?_) (by omega)
  ·obtain ⟨s1,st⟩:=s
   obtain ⟨rfl,h1,h2⟩:=hs
   simp only [] at h1 h2
   refine ⟨_,by unfold rJ;simp only [];rw [bM,dT (by omega),kS,jm hi,bS,oJ (by omega)],rfl,fun n hn=>?_,fun n=>?_⟩
   ·simp only []
    rw [Jo]
    by_cases he:n=p.aO[i].Name
    ·rw [if_pos he,he,ho.NY (List.getElem_mem hi)]
    ·rw [if_neg he]
     rw [OW hi,dF (fun x=>he x.symm),Bool.or_false] at hn
     exact h1 n hn
   ·simp only []
    rw [MX,h2,OW hi,Bool.or_comm]
    congr 1
    exact decide_eq_decide.2 ⟨Eq.symm,Eq.symm⟩
  ·obtain ⟨s1,st⟩:=s
   obtain ⟨rfl,h1,h2⟩:=hs
   refine ⟨st,?_,h1,h2⟩
   unfold rJ
   simp only []
   rw [bM,dF (by omega),kG]
 obtain ⟨st,h1,h2,h3⟩:=key
 exact ⟨st,h1,fun s hs=>by rw [h2 s (by rw [Q8];exact hs)];show _=(bif pF p s then _ else _);rw [hs];rfl,fun s=>by rw [h3,Q8]⟩
theorem New_eq {N:Nat} {p:ax} (hp:NV p) (ho:vP p=0) (hN:1000000≤N):∃ st,x9 N p=some (some ((⟨p,0,[]⟩:ah),st,[],[]),0)∧RelA p (newA p) (⟨p,0,[]⟩:ah) st [] []:=by
 have hk:=okP ho
 unfold x9
 rw [JZ hp hN,ho,bS,wP,dT rfl,Bool.not_true,kG,jQv hp hN,bS]
 obtain ⟨s1,h1,r1⟩:=jVv hp hk hN
 rw [h1,bS]
 have hb:RelB p (newE p) (⟨p,0,[]⟩:ah) []:=⟨rfl,rfl,fun s=>rfl,fun s t e=>by cases e⟩
 obtain ⟨s2,h2,r2⟩:=PS (pe:=([]:List (Str×Str))) hp hk hN hb r1 (jWt p)
 rw [h2,bS]
 exact ⟨s2,rfl,⟨rfl,rfl,fun s=>rfl,fun s t e=>by cases e⟩,r2,List.Perm.refl _,rfl⟩
theorem jWz {N:Nat} {p:ax} (hp:NV p) (ho:vP p≠0) (hN:1000000≤N):x9 N p=some (none,vP p):=by
 unfold x9
 rw [JZ hp hN,bS,wP,dF ho];rfl
end Go.KB
