/- What an office answers: reasons and overdue people. No condition. -/
import Derived.Test.YtochfcfkpachcaaGreatDoorPLg4
namespace Go.KB
set_option linter.unusedVariables false
theorem Wx {α:Type} {q:Bool} {x:α}:(bif q then [x] else []).length≤1:=by cases q <;> simp
section
variable {p:GPermitPlan} {A:AO} (hp:H8 p) (b:MS A)
include hp b in
theorem jJg {y:aP} (hy:y.Locks.length<1000):∀ r ∈ Ew p A y,r.Names.length<1000000:=by
  have hm:=hp.m
  have hpl:=b.pl
  have h1:(JC A y).length<1000000:=Nat.lt_of_le_of_lt (List.length_filter_le _ _) (by omega)
  have h2:(nC p A (fun z=>yY p z y)).length<1000000:=Nat.lt_of_le_of_lt Ud (by omega)
  have h3:(Aq p A y).length<1000000:=Nat.lt_of_le_of_lt (List.length_filter_le _ _) (by have:=Ug (x:=y) hp;omega)
  have h4:(yJ A (fun s=>decide (pI p s y.Space≤1))).length<1000000:=Nat.lt_of_le_of_lt Ue hpl
  intro r hr
  unfold Ew at hr
  rcases List.mem_append.1 hr with hr | hr
  · cases hd:decide (A.now<y.From) with
    | false=>rw [hd] at hr;cases hr
    | true=>rw [hd,ni,List.mem_singleton] at hr;subst hr;decide
  · have hr:=(List.mem_filter.1 hr).1
    rcases List.mem_append.1 hr with hr | hr
    · simp only [List.mem_cons,List.not_mem_nil,or_false] at hr
      rcases hr with rfl | rfl | rfl
      · exact h1
      · exact h2
      · exact h3
    · cases hd:decide (y.Kind=3) with
      | false=>rw [hd] at hr;cases hr
      | true=>rw [hd,ni,List.mem_singleton] at hr;subst hr;exact h4
end
/- reasons handed out one after the other are collected -/
theorem Uh {N:Nat} {g:List bg→bg→Option (List bg×Option Nat)} (hg:∀ s r,s.length<1000→g s r=some (s ++ [r],none)):∀ (l acc:List bg),acc.length+l.length<1000→P9 (yl g 0) l (acc,none)=some (acc ++ l,none)
  | [],acc,_=>by rw [List.append_nil];rfl
  | r :: l,acc,h=>by
    have h':acc.length+l.length+1<1000:=by simp only [List.length_cons] at h;omega
    have e:yl g 0 (acc,none) r=some ((acc ++ [r],none),true):=by
      unfold yl
      simp only [hg acc r (by omega)]
    unfold P9
    rw [e,bS]
    simp only [ni]
    rw [Uh (N:=N) hg l (acc ++ [r]) (by simp only [List.length_append,List.length_singleton];omega),List.append_assoc];rfl
theorem QD {p:GPermitPlan} {A:AO} {x:aP}:(Ew p A x).length<100:=by
  unfold Ew
  rw [List.length_append]
  have h1:(bif decide (A.now<x.From) then [(⟨2,[]⟩:bg)] else []).length≤1:=Wx
  have h2:=List.length_filter_le (fun r:bg=>!r.Names.isEmpty) ([(⟨18,JC A x⟩:bg),(⟨20,nC p A (fun y=>yY p y x)⟩:bg),(⟨21,Aq p A x⟩:bg)] ++ (bif decide (x.Kind=3) then [(⟨17,yJ A (fun s=>decide (pI p s x.Space≤1))⟩:bg)] else []))
  rw [List.length_append] at h2
  have h3:(bif decide (x.Kind=3) then [(⟨17,yJ A (fun s=>decide (pI p s x.Space≤1))⟩:bg)] else []).length≤1:=Wx
  simp only [List.length_cons,List.length_nil] at h2
  omega
def ovA (p:GPermitPlan) (A:AO):List Str:=yJ A fun s=>(zM p s).fG && !vH p A s
section
variable {N:Nat} {p:GPermitPlan} {A:AO} {g:af} {st:List (Str×ah)} {mP:List (Str×ai)} {pe:List (Str×Str)} (hp:H8 p) (ho:H6 p) (hN:1000000≤N) (h:RelA p A g st mP pe) (b:MS A) (hpp:A.pp.Pairwise (fun a b=>a.1<b.1))
include hp ho hN h b hpp in
theorem Y8 {n:Str}:mG N g st mP pe n=some (bif lZ p n then (Ew p A (qK p n),0) else ([],6)):=by
  have hm:=hp.m
  have hlim:lim ≥ 1000000:=by decide
  unfold mG
  rw [h.b.plan,Cb (by omega) hN,bS,FV]
  show (bif !lZ p n then _ else _)=_
  cases hh:lZ p n with
  | false=>rfl
  | true =>
    simp only [Bool.not_true,nN,ni]
    unfold kU
    rw [bS]
    show ((gV N g st mP pe (qK p n)).bind _)=_
    unfold gV eU
    rw [OT hp ho hN h b hpp (zk hh).1,Uh (N:=N) (g:=di N) (fun s r hs=>by
      unfold di
      rw [FQ (by simp only [List.length_singleton];omega)];rfl) _ _ (by have:=QD (p:=p) (A:=A) (x:=qK p n);simp only [List.length_nil];omega),bS]
    rfl
include hp hN h in
theorem Vr {s:Str}:lC N g st mP s=some (vH p A s):=by
  have hm:=hp.m
  have ho4:lW N g st mP (fun y0=>eX N y0 s)=some (nC p A (fun y=>decide (y.Kind=1)&&decide (y.Space=s))):=by
    unfold lW
    rw [FW (f:=jK N g st mP (fun y0=>eX N y0 s)) (A:=A) (so:=fun y=>decide (y.Kind=1)&&decide (y.Space=s)) hp hN (fun i hi acc hacc=>?_) (fun acc=>?_)]
    · rfl
    · unfold jK
      simp only []
      have his:nS N g st mP p.aH[i].Name [2]=some (([2]:List Int).contains (stA A p.aH[i].Name)):=H9 (g:=g) (mP:=mP) (pe:=pe) hN h.st (GH hi) (by decide)
      rw [h.b.plan,dw,dT (by omega),ni,jI hi,bS,his,bS,rJ (by omega)]
      have hc:([2]:List Int).contains (stA A p.aH[i].Name)=decide (stA A p.aH[i].Name=2):=by rw [Bool.eq_iff_iff];simp
      rw [hc,show eX N p.aH[i] s=some (decide (p.aH[i].Kind=1)&&decide (p.aH[i].Space=s)) from by unfold eX;rw [uz,uj]]
      cases decide (stA A p.aH[i].Name=2) <;> rfl
    · unfold jK
      simp only []
      rw [h.b.plan,dw,dF (by omega),nN]
  unfold lC vH
  rw [ho4,bS,gt0]
include hp hN h b hpp in
theorem OQ:jP N g st mP pe=some (ovA p A):=by
  have hs:=hp.s
  have hlim:lim ≥ 10000000:=by decide
  have hr:iq N g st mP pe=some (ovA p A):=by
    unfold iq
    refine OU (f:=gW N g st mP) (so:=fun s=>(zM p s).fG && !vH p A s) h.pe hpp b.pl fun acc q _ hacc=>?_
    unfold gW lK
    rw [h.b.plan,yK (by omega) hN,bS,Vr hp hN h]
    show (((bif (zM p q.2).fG then some (vH p A q.2) else some false).bind fun v2=>some ((zM p q.2).fG && !v2)).bind fun v5=>bif v5 then ((app acc [q.1]).bind fun v6=>some v6) else (some acc))=_
    cases (zM p q.2).fG with
    | false=>rfl
    | true =>
      cases vH p A q.2 with
      | true=>rfl
      | false =>
        simp only [ni,bS,Bool.true_and,Bool.not_false]
        rw [FQ (by simp only [List.length_singleton];omega)];rfl
  unfold jP
  rw [hr];rfl
end
theorem RX {N:Nat} {l:List bg} (hl:l.length<100) (hn:∀ r ∈ l,r.Names.length<1000000) (hN:1000000≤N):xw N l l=some true:=by
  unfold xw
  rw [qV,dT rfl,Bool.not_true,nN]
  have h:((eF (rC N l l) N 0).bind fun o=>Sum.elim (fun _=>some true) (fun r=>some r) o)=some (l.all fun _=>true):=by
    refine OV (fun i hi=>?_) ?_ (by omega)
    · unfold rC
      rw [dw,dT (by omega),ni,jI hi,bS,bS,qV,dT rfl,Bool.not_true,Bool.not_false,ni,bS,bS,JA (hn _ (List.getElem_mem hi)) hN,ni,bS,rJ (by omega)];rfl
    · unfold rC
      rw [dw,dF (by omega),nN]
  rw [h];simp
end Go.KB
