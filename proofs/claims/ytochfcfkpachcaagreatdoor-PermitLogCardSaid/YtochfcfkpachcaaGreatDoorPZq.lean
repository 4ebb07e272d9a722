/- Plain laws of chapter 7: the open permits are a possible set. Replay: the office behind the events up to the first one that is refused. No condition. -/
import Derived.Test.YtochfcfkpachcaaGreatDoorPZo
import Derived.Test.YtochfcfkpachcaaGreatDoorPZp
namespace Go.KB
set_option linter.unusedVariables false
theorem Ud {p:GPermitPlan} {A:AO} {so:aP→Bool}:(nC p A so).length≤p.aH.length:=by
 unfold nC;rw [List.length_map];exact List.length_filter_le _ _
theorem jJu {p:GPermitPlan} {n:Nat} {N:Nat} {K:Option Bool} (hN:1000000≤N) (ha:vT N=some true) (hK:H8 p→uU p=0→p.dA.length≤8→p.aH.length≤8→p.dR.length≤12→n≤30→K=some true):((yH N p).bind fun v1=>bif ((!v1)||(aS .gtr (n:Int) 30)) then ((vT N).bind fun v2=>some v2) else K)=some true:=by
 rcases fit_eq p hN with hf | ⟨hf,hp,hc,hsl,hpl,hxl⟩
 ·rw [hf,ha];rfl
 rw [hf,bS,Bool.not_true,Bool.false_or,wB,ha]
 by_cases hl:30<n
 ·rw [dT (by omega)];rfl
 ·rw [dF (by omega),nN];exact hK hp hc hsl hpl hxl (by omega)
end Go.KB
namespace Go.KB
set_option linter.unusedVariables false
def sH (p:GPermitPlan):AO→List GEvent→AO×Nat×Int
 | A,[]=>(A,0,0)
 | A,x :: r=>bif decide ((zL p A x).2.2=0) then ((sH p (zL p A x).1 r).1,(sH p (zL p A x).1 r).2.1+1,(sH p (zL p A x).1 r).2.2) else (A,0,(zL p A x).2.2)
theorem Ib {p:GPermitPlan} {A:AO} {x:GEvent} {r:List GEvent} (h:(zL p A x).2.2=0):sH p A (x :: r)=((sH p (zL p A x).1 r).1,(sH p (zL p A x).1 r).2.1+1,(sH p (zL p A x).1 r).2.2):=by
 show (bif decide ((zL p A x).2.2=0) then _ else _)=_
 rw [dT h];rfl
theorem O5 {p:GPermitPlan} {A:AO} {x:GEvent} {r:List GEvent} (h:(zL p A x).2.2≠0):sH p A (x :: r)=(A,0,(zL p A x).2.2):=by
 show (bif decide ((zL p A x).2.2=0) then _ else _)=_
 rw [dF h];rfl
theorem do_acc {p:GPermitPlan} {A:AO} {x:GEvent} (h:(zL p A x).2.2=0):(zL p A x).1.done=A.done ++ [x]:=by
 unfold zL at h ⊢
 cases h1:(decide (x.Op<0)||decide (12≤x.Op)||decide (x.At<0)||decide (1000000<x.At)) with
 | true=>rw [h1] at h;exact absurd (show (2:Int)=0 from h) (by decide)
 | false =>
  rw [h1] at h
  rw [nN] at h ⊢
  cases h2:decide (x.At<A.now) with
  | true=>rw [h2] at h;exact absurd (show (10:Int)=0 from h) (by decide)
  | false =>
   rw [h2] at h
   rw [nN] at h ⊢
   simp only [] at h ⊢
   by_cases h3:(yI p (ig p { A with now:=x.At }) x).2.2=0
   ·rw [dT h3];rfl
   ·rw [dF h3] at h;exact absurd h h3
theorem Vu {p:GPermitPlan}:∀ {r:List GEvent} {A:AO},(sH p A r).2.1≤r.length∧(sH p A r).1.done=A.done ++ r.take (sH p A r).2.1∧((sH p A r).2.2=0→(sH p A r).2.1=r.length):=by
 intro r
 induction r with
 | nil=>intro A;exact ⟨Nat.le_refl _,by show A.done=_;simp [sH],fun _=>rfl⟩
 | cons x r ih =>
  intro A
  by_cases h:(zL p A x).2.2=0
  ·obtain ⟨i1,i2,i3⟩:=ih (A:=(zL p A x).1)
   rw [Ib h]
   refine ⟨by simp only [List.length_cons];omega,?_,fun he=>by simp only [List.length_cons];rw [i3 he]⟩
   simp only []
   rw [i2,do_acc h,List.append_assoc];rfl
  ·rw [O5 h]
   exact ⟨Nat.zero_le _,by simp,fun he=>absurd he h⟩
theorem Vw {N:Nat} {g:af} {st:List (Str×ah)} {mP:List (Str×ai)} {pe:List (Str×Str)} (hl:g.done.length<1000000):mM N g st mP pe=some (some (g,st,mP,pe),()):=by
 have hlim:lim ≥ 10000000:=by decide
 unfold mM jU
 rw [FQ (by simp only [List.length_nil];omega)];rfl
theorem Um {N:Nat} {p:GPermitPlan} (hp:H8 p) (ho:H6 p) (hN:1000000≤N) {l:List GEvent} (hl:l.length<1000):∀ (d i:Nat) (A:AO) (g:af) (st:List (Str×ah)) (mP:List (Str×ai)) (pe:List (Str×Str)) (M:Nat),i+d=l.length→d<M→OM p i A g st mP pe →
    ∃ g' st' Ei OO,OM p (i+(sH p A (l.drop i)).2.1) (sH p A (l.drop i)).1 g' st' Ei OO∧eF (kD N l) M ((i:Int),g,st,mP,pe)=some (bif decide ((sH p A (l.drop i)).2.2=0) then Sum.inl (g',st',Ei,OO) else Sum.inr (some (g',st',Ei,OO),((i+(sH p A (l.drop i)).2.1:Nat):Int),(sH p A (l.drop i)).2.2)):=by
  intro d
  induction d with
  | zero =>
    intro i A g st mP pe M hi hM h
    obtain ⟨M,rfl⟩:∃ m,M=m+1:=⟨M - 1,by omega⟩
    rw [List.drop_of_length_le (by omega)]
    refine ⟨g,st,mP,pe,h,?_⟩
    have e:kD N l ((i:Int),g,st,mP,pe)=some (.inr (Sum.inl (g,st,mP,pe))):=by
      unfold kD
      simp only []
      rw [dw,dF (by omega),nN]
    rw [eF,e];rfl
  | succ d ih =>
    intro i A g st mP pe M hi hM h
    obtain ⟨M,rfl⟩:∃ m,M=m+1:=⟨M - 1,by omega⟩
    have hlt:i<l.length:=by omega
    obtain ⟨g1,st1,air1,pe1,hd,h1⟩:=Y5 hp ho hN h (by omega) l[i]
    have hcl:mM N g st mP pe=some (some (g,st,mP,pe),()):=Vw (by rw [h.rel.done];have:=h.len;omega)
    rw [List.drop_eq_getElem_cons hlt]
    by_cases h0:(zL p A l[i]).2.2=0
    · have e:kD N l ((i:Int),g,st,mP,pe)=some (.inl (((i+1:Nat):Int),g1,st1,air1,pe1)):=by
        unfold kD
        simp only []
        rw [dw,dT (by omega),ni,jI hlt,bS,hcl,bS]
        simp only [Bj]
        rw [hd,bS]
        simp only []
        rw [h0,qV,dT rfl,rJ (by omega)];rfl
      rw [eF,e,Ib h0]
      obtain ⟨g',st',Ei,OO,h2,h3⟩:=ih (i+1) _ g1 st1 air1 pe1 M (by omega) (by omega) h1
      refine ⟨g',st',Ei,OO,?_,?_⟩
      · have e2 : i + 1 + (sH p (zL p A l[i]).1 (List.drop (i + 1) l)).2.1 = i + ((sH p (zL p A l[i]).1 (List.drop (i + 1) l)).2.1 + 1) := by omega
        rw [← e2];exact h2
      · have e2 : i + 1 + (sH p (zL p A l[i]).1 (List.drop (i + 1) l)).2.1 = i + ((sH p (zL p A l[i]).1 (List.drop (i + 1) l)).2.1 + 1) := by omega
        rw [e2] at h3;exact h3
    · have e:kD N l ((i:Int),g,st,mP,pe)=some (.inr (Sum.inr (some (g,st,mP,pe),(i:Int),(zL p A l[i]).2.2))):=by
        unfold kD
        simp only []
        rw [dw,dT (by omega),ni,jI hlt,bS,hcl,bS]
        simp only [Bj]
        rw [hd,bS]
        simp only []
        rw [qV,dF h0];rfl
      rw [eF,e,O5 h0]
      exact ⟨g,st,mP,pe,h,by rw [dF h0];rfl⟩
theorem XA {N:Nat} {p:GPermitPlan} (hp:H8 p) (hc:uU p=0) (hN:1000000≤N) {l:List GEvent} (hl:l.length<1000) :
  ∃ g st mP pe,OM p (sH p (Eu p) l).2.1 (sH p (Eu p) l).1 g st mP pe∧uZ N p l=some (some (g,st,mP,pe),(((sH p (Eu p) l).2.1:Nat):Int),(sH p (Eu p) l).2.2):=by
 obtain ⟨st,hn,hr⟩:=Wu hp hc hN
 obtain ⟨g',st',Ei,OO,h1,h2⟩:=Um hp (okP hc) hN hl l.length 0 (Eu p) _ st [] [] N (by omega) (by omega) hr
 rw [List.drop_zero,Nat.zero_add] at h1 h2
 refine ⟨g',st',Ei,OO,h1,?_⟩
 unfold uZ
 rw [hn,bS]
 simp only [Bj]
 rw [qV,dT rfl,Bool.not_true,nN]
 show (eF (kD N l) N (((0:Nat):Int),_,st,[],[])).bind _=_
 rw [h2,bS]
 by_cases h0:(sH p (Eu p) l).2.2=0
 ·rw [dT h0,h0,ni,Vu.2.2 h0];rfl
 ·rw [dF h0];rfl
end Go.KB
