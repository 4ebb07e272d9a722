/- Plain laws of chapter 8 (proved plans): slots; work as plans see it. Plain laws of chapter 8 (proved plans): the board. Plain laws of chapter 8 (proved plans): the earliest slot; duration, cost, least wages, floor. Plain laws of chapter 8 (proved plans): duration, cost, least wages, floor. Plain laws of chapter 8 (proved plans): the key of placed items; open items. Plain laws of chapter 8 (proved plans): the search finds the least measure. Plain laws of chapter 8 (proved plans): undercut, the first plan of a value. No condition. -/
import Derived.Test.YtdmioehoinnamaaGreatDoorPZ8
import Derived.Test.YtdmioehoinnamaaGreatDoorPZ1
namespace Go.KB
set_option linter.unusedVariables false
set_option maxRecDepth 100000
def YE (s:ah) (x:bU):Int:=s.day+x.Modes[s.mode.toNat]!.iH
def P8 (a b:Str) (s:jF):Bool:=(decide (s.Name=a)&&EN s.Next b)||(decide (s.Name=b)&&EN s.Next a)
def G9 (w:GWork) (a b:Str):Int:=if a=b then 0 else if (w.dh.any (P8 a b))=true then 1 else 2
def P9 (e:dL) (a b:Int):Bool:=(decide (e.A=a)&&decide (e.B=b))||(decide (e.A=b)&&decide (e.B=a))
def exW (w:GWork) (x y:bU):Bool:=!(decide (x.Name=y.Name)||decide (x.Kind<0)||decide (y.Kind<0))&&w.bD.any fun e=>P9 e x.Kind y.Kind&&decide (G9 w x.Space y.Space≤e.Reach)
def RX (w:GWork) (x y:bU):Bool:=(x.BH&&y.BH)||exW w x y
section
variable {N:Nat} {w:GWork} (hN:2 ^ 64≤N) (hw:NH w)
include hN hw
theorem YF {a b:Str}:xN N w a b=some (G9 w a b):=by
 have hs:=hw.s
 unfold xN G9
 rw [rH]
 by_cases h:a=b
 ·rw [dT h,if_pos h];rfl
 ·rw [dF h,if_neg h,iP]
  have hstep:∀ i,i<w.dh.length→qC N w a b (i:Int)=bif P8 a b w.dh[i]! then some (.inr (.inr 1)) else some (.inl ((i+1:Nat):Int)):=by
   intro i hi
   have hn:=hw.n i hi
   have c1:=EO (N:=N) (l:=w.dh[i]!.Next) (s:=b) (by omega) (by omega)
   have c2:=EO (N:=N) (l:=w.dh[i]!.Next) (s:=a) (by omega) (by omega)
   unfold qC P8
   rw [aO,dT (by omega),jm,iV hi,bS,rH,rH,c1,kN (by omega)]
   simp only [c2]
   cases decide (w.dh[i]!.Name=a) <;> cases decide (w.dh[i]!.Name=b) <;> cases EN w.dh[i]!.Next b <;> cases EN w.dh[i]!.Next a <;> rfl
  have hloop:bM (qC N w a b) N 0=some (if (w.dh.any (P8 a b))=true then .inr 1 else .inl ()):=by
   refine KQ w.dh.length _ (fun i=>∀ j,j<i→P8 a b w.dh[j]! = false) ?_ ?_ (fun j hj=>absurd hj (Nat.not_lt_zero _)) N (by omega)
   ·intro i hi hp
    rw [hstep i hi]
    cases hg:P8 a b w.dh[i]! with
    | true =>
     right
     rw [if_pos (List.any_eq_true.2 ⟨w.dh[i]!,by rw [uD hi];exact List.getElem_mem hi,hg⟩)];rfl
    | false =>
     refine .inl ⟨rfl,fun j hj=>?_⟩
     by_cases e:j=i
     ·subst e;exact hg
     ·exact hp j (by omega)
   ·intro hp
    unfold qC
    rw [aO,dF (by omega),iP,if_neg]
    intro hany
    obtain ⟨x,hx,hg⟩:=List.any_eq_true.1 hany
    obtain ⟨j,hj,rfl⟩:=List.getElem_of_mem hx
    have:=hp j hj
    rw [uD hj,hg] at this;cases this
  rw [hloop,bS]
  split <;> rfl
theorem ZR {x y:bU}:tZ N w x y=some (exW w x y):=by
 have he:=hw.e
 unfold tZ exW
 rw [rH,aO,aO]
 cases (decide (x.Name=y.Name)||decide (x.Kind<0)||decide (y.Kind<0)) with
 | true=>rfl
 | false =>
  rw [iP,Bool.not_false,Bool.true_and]
  have h:gm N w.bD (fun y0=>pR N y0 x y w)=some (w.bD.any fun e=>P9 e x.Kind y.Kind&&decide (G9 w x.Space y.Space≤e.Reach)):=by
   unfold gm
   rw [Wu (g:=fun e=>P9 e x.Kind y.Kind&&decide (G9 w x.Space y.Space≤e.Reach)) (fun e=>by
    unfold pR
    simp only [yP,YF hN hw,yt]
    show ((bif P9 e x.Kind y.Kind then some (G9 w x.Space y.Space) else some 0).bind fun v1=>some (P9 e x.Kind y.Kind&&decide (v1≤e.Reach)))=_
    cases P9 e x.Kind y.Kind <;> rfl) (by omega) (by omega),bS,Nv]
  rw [h];rfl
theorem Rq {i k:Nat} (hi:i<w.Items.length) (hk:k<w.Items.length):uH N w (i:Int) (k:Int)=some (RX w w.Items[i]! w.Items[k]!):=by
 unfold uH RX
 rw [iV hi,bS,iV hk,bS,ZR hN hw]
 cases (w.Items[i]!.BH&&w.Items[k]!.BH) with
 | true=>rfl
 | false=>rfl
end
theorem and_c {a b:Bool}:(a&&b)=(b&&a):=Bool.and_comm a b
theorem ZT {w:GWork} {a b:Str}:G9 w a b=G9 w b a:=by
 unfold G9
 have h:P8 a b=P8 b a:=by funext s;unfold P8;rw [Bool.or_comm]
 by_cases e:a=b
 ·rw [if_pos e,if_pos e.symm]
 ·rw [if_neg e,if_neg (Ne.symm e),h]
theorem exW_c {w:GWork} {x y:bU}:exW w x y=exW w y x:=by
 unfold exW
 have h:(fun e=>P9 e x.Kind y.Kind&&decide (G9 w x.Space y.Space≤e.Reach))=fun e=>P9 e y.Kind x.Kind&&decide (G9 w y.Space x.Space≤e.Reach):=by
  funext e
  rw [ZT]
  congr 1
  unfold P9
  rw [Bool.or_comm]
 rw [h,show decide (x.Name=y.Name)=decide (y.Name=x.Name) by simp [eq_comm]]
 cases decide (y.Name=x.Name) <;> cases decide (x.Kind<0) <;> cases decide (y.Kind<0) <;> rfl
theorem apW_c {w:GWork} {x y:bU}:RX w x y=RX w y x:=by
 unfold RX;rw [exW_c,and_c]
def stW (w:GWork) (x:bU) (s:ah):Bool:=x.BH&&w.dm.any fun o=>decide (s.day<o.To)&&decide (o.From<YE s x)
def dU (w:GWork):Pb where
 n:=w.Items.length
 Rw i m:=w.Items[i]!.Modes[m.toNat]!.iH
 cr i m:=w.Items[i]!.Modes[m.toNat]!.gB
 nm i:=w.Items[i]!.Modes.length
 tr i:=w.Items[i]!.iq
 cap i:=w.aY[(BV (JJ w) w.Items[i]!.iq).toNat]!.gB
 pri i k:=(pJ w i).contains (k:Int)
 ap i k:=decide (i≠k)&&RX w w.Items[i]! w.Items[k]!
 st i s:=stW w w.Items[i]! s
 last:=w.Last
theorem en_eq {w:GWork} {i:Nat} {s:ah}:(dU w).en i s=YE s w.Items[i]!:=rfl
theorem BA {w:GWork} (ok:TT w) (h8:w.Items.length≤8):(dU w).Ok where
 Rw i hi m h0 h1:=by
  have h1:m<(w.Items[i]!.Modes.length:Int):=h1
  exact ((ok.it i hi).2.2.md m.toNat (by omega)).1
 cr i hi m h0 h1:=by
  have h1:m<(w.Items[i]!.Modes.length:Int):=h1
  exact ((ok.it i hi).2.2.md m.toNat (by omega)).2.1
 cap i k hi hk h:=by
  have h:w.Items[i]!.iq=w.Items[k]!.iq:=h
  show w.aY[(BV (JJ w) w.Items[i]!.iq).toNat]!.gB=w.aY[(BV (JJ w) w.Items[k]!.iq).toNat]!.gB
  rw [h]
 ap i k hi hk:=by
  show (decide (i≠k)&&RX w w.Items[i]! w.Items[k]!)=(decide (k≠i)&&RX w w.Items[k]! w.Items[i]!)
  rw [apW_c,show decide (i≠k)=decide (k≠i) by simp [eq_comm]]
 irr i hi:=by
  show (pJ w i).contains (i:Int)=false
  rw [Bool.eq_false_iff]
  intro h
  have h:=List.contains_iff_mem.1 h
  unfold pJ at h
  obtain ⟨s,hs,e⟩:=List.mem_map.1 h
  obtain ⟨j,hj,rfl⟩:=List.getElem_of_mem hs
  obtain ⟨h1,h2⟩:=(ok.it i hi).2.2.af j hj
  rw [uD hj] at h1 h2
  obtain ⟨k,h3,h4,h5⟩:=GY h1
  have h4:Ui w w.Items[i]!.After[j]=(k:Int):=h4
  rw [zW] at h3
  rw [Uj h3] at h5
  have:k=i:=by omega
  rw [this] at h5
  exact h2 h5.symm
 n8:=h8
 last:=ok.last.2
structure SlC (w:GWork) (s:List GSlot):Prop where
 len:s.length=w.Items.length
 ok:∀ i,i<s.length→∃ k:Nat,k<w.Items.length∧BV (ES w) s[i]!.Item=(k:Int)∧(0≤s[i]!.Mode∧s[i]!.Mode<w.Items[k]!.Modes.length)∧(0≤s[i]!.Day∧s[i]!.Day≤400)∧∀ j,j<i→s[j]!.Item≠s[i]!.Item
section
variable {N:Nat} {w:GWork} (hN:2 ^ 64≤N) (hw:NH w)
include hN hw
theorem Wh {s:List GSlot} (hs:s.length≤1000):∃ e,uV N w s=some e∧(e=0→SlC w s):=by
  have hii:=hw.i
  unfold uV
  rw [rC]
  by_cases h:(s.length:Int)=(w.Items.length:Int)
  · rw [dT h,Bool.not_true,iP]
    obtain ⟨o,ho,hc⟩:=AP (f:=pU N w s) (N:=N) (n:=s.length) (fun i=>∃ k:Nat,k<w.Items.length∧BV (ES w) s[i]!.Item=(k:Int)∧(0≤s[i]!.Mode∧s[i]!.Mode<w.Items[k]!.Modes.length)∧(0≤s[i]!.Day∧s[i]!.Day≤400)∧∀ j,j<i→s[j]!.Item≠s[i]!.Item) (fun i hi=>by
      unfold pU
      rw [aO,dT (by omega),jm,iV hi,bS,YG hN (by omega),bS,aO]
      rcases He (l:=ES w) (s:=s[i]!.Item) with ⟨h1,h2⟩ | ⟨k,h1,h2,h3,h4⟩
      · rw [h1];exact .inr ⟨6,by omega,rfl⟩
      · rw [zW] at h1
        have hm:=hw.m k h1
        rw [h2,dF (by omega),iP]
        obtain ⟨o,ho,hc⟩:=AP (f:=pV N s (i:Int)) (N:=N) (n:=i) (fun j=>s[j]!.Item≠s[i]!.Item) (fun j hj=>by
          unfold pV
          rw [aO,dT (by omega),jm,iV (by omega),bS,iV hi,bS,rH,kN (by omega)]
          by_cases c:s[j]!.Item=s[i]!.Item
          · rw [dT c];exact .inr ⟨5,by omega,rfl⟩
          · rw [dF c];exact .inl ⟨rfl,c⟩) (by
          unfold pV
          rw [aO,dF (by omega),iP]) (by omega)
        rw [ho,bS]
        rcases hc with ⟨rfl,hp⟩ | ⟨e,he,rfl⟩
        · rw [Sum.elim_inl, bS, iV h1, bS, qY, bS, BU (n := (w.Items[k]!.Modes.length : Int) - 1) (by omega) (by omega)]
          by_cases a:0≤s[i]!.Mode∧s[i]!.Mode≤(w.Items[k]!.Modes.length:Int) - 1
          · rw [dT a]
            simp only [Bool.not_true,Bool.not_false,jm,bS,qY]
            by_cases b:0≤s[i]!.Day∧s[i]!.Day≤400
            · rw [dT b]
              refine .inl ⟨?_,k,h1,rfl,by omega,b,hp⟩
              show some (Sum.inl (IntKind.i64.wrap ((i:Int)+1)))=_
              rw [kN (by omega)]
            · rw [dF b];exact .inr ⟨2,by omega,rfl⟩
          · rw [dF a];exact .inr ⟨2,by omega,rfl⟩
        · exact .inr ⟨e,he,rfl⟩) (by
      unfold pU
      rw [aO,dF (by omega),iP]) (by omega)
    rw [ho,bS]
    rcases hc with ⟨rfl,hp⟩ | ⟨e,he,rfl⟩
    · exact ⟨0,rfl,fun _=>⟨by omega,hp⟩⟩
    · exact ⟨e,rfl,fun x=>absurd x he⟩
  · rw [dF h];exact ⟨11,rfl,fun x=>by omega⟩
theorem Rn (ok:TT w) {s:List GSlot} (hs:SlC w s):∃ l,iW N w s=some (l,0)∧(dU w).Wf l∧(dU w).Full l∧∀ j,j<s.length→∀ k:Nat,BV (ES w) s[j]!.Item=(k:Int)→l[k]! = ⟨s[j]!.Mode,s[j]!.Day,true⟩:=by
 have hii:=hw.i;have hsl:=hs.len
 have hlim:lim ≥ 1000000:=by decide
 have hmk:mk (⟨0,0,false⟩:ah) ((ES w).length:Int) ((ES w).length:Int)=some (List.replicate w.Items.length ⟨0,0,false⟩):=by
  unfold mk
  rw [zW,dT (by omega),dT (by omega),dT (by omega)];rfl
 unfold iW
 rw [P6 hN hw ok,bS,show ax .neq (0:Int) 0=false from rfl,iP,rC,dT (by omega),Bool.not_true,iP,U9 hN hw ok,bS,hmk,bS]
 obtain ⟨o,ho,l,rfl,h1,h2,h3,h4⟩:=ni (f:=oz N w s (ES w)) (I:=fun q=>∃ j:Nat,q.2=(j:Int)∧j≤s.length∧q.1.length=w.Items.length∧yO q.1+j=w.Items.length∧(∀ k,k<w.Items.length→q.1[k]!.on=true→(dU w).EP k q.1[k]! ∧ ∃ i:Nat,i<j∧BV (ES w) s[i]!.Item=(k:Int))∧∀ i,i<j→∀ k:Nat,BV (ES w) s[i]!.Item=(k:Int)→q.1[k]! = ⟨s[i]!.Mode,s[i]!.Day,true⟩) (μ:=fun q=>s.length - q.2.toNat) (post:=fun o=>∃ l,o = .inl l∧l.length=w.Items.length∧yO l=0∧(∀ k,k<w.Items.length→l[k]!.on=true→(dU w).EP k l[k]!)∧∀ i,i<s.length→∀ k:Nat,BV (ES w) s[i]!.Item=(k:Int)→l[k]! = ⟨s[i]!.Mode,s[i]!.Day,true⟩) (by
  rintro ⟨l,sj⟩ ⟨j,hj,hjl,hl,hcn,hok,hval⟩
  simp only at hj hl hcn hok hval
  subst hj
  by_cases hlt:j<s.length
  ·left
   obtain ⟨k,hk,h1,h2,h3,h4⟩:=hs.ok j hlt
   have hoff:l[k]!.on=false:=by
    cases hon:l[k]!.on with
    | false=>rfl
    | true =>
     exfalso
     obtain ⟨_,i,hi,hix⟩:=hok k hk hon
     obtain ⟨k2,g1,g2,_⟩:=hs.ok i (by omega)
     have e1:(ES w)[k]! = s[i]!.Item:=by
      rcases He (l:=ES w) (s:=s[i]!.Item) with ⟨h,_⟩ | ⟨m,_,h,h',_⟩
      ·omega
      ·rw [← h',show m=k by omega]
     have e2:(ES w)[k]! = s[j]!.Item:=by
      rcases He (l:=ES w) (s:=s[j]!.Item) with ⟨h,_⟩ | ⟨m,_,h,h',_⟩
      ·omega
      ·rw [← h',show m=k by omega]
     exact h4 i hi (e1.symm.trans e2)
   refine ⟨(l.set k ⟨s[j]!.Mode,s[j]!.Day,true⟩,((j+1:Nat):Int)),?_,⟨j+1,rfl,by omega,by simpa using hl,by have:=Jz (l:=l) (i:=k) (v:=⟨s[j]!.Mode,s[j]!.Day,true⟩) (by omega) hoff rfl;simp only;omega,fun k' hk' YH=>?_,fun i hi k' hik=>?_⟩,?_⟩
   ·unfold oz
    simp only []
    rw [aO,dT (by omega),jm,iV hlt,bS,JA (by rw [zW];omega) (by omega),bS,show DU (fun x=>decide (s[j]!.Item=x)) (ES w)=(k:Int) from h1,aO,dF (by omega),iP,iV (by omega),bS,hoff,iP,aO,dF (by omega),Bool.not_false,jm,iV hk,bS,vX,dF (by omega),Bool.or_self,Bool.not_false,jm,tH,wd,dT h3,bS]
    show (bif false then _ else _)=_
    rw [iP,bS,Int.toNat_natCast,kN (by omega)]
   ·show (dU w).EP k' (l.set k ⟨s[j]!.Mode,s[j]!.Day,true⟩)[k']! ∧ _
    have YH:(l.set k ⟨s[j]!.Mode,s[j]!.Day,true⟩)[k']!.on=true:=YH
    rw [setB (by omega)] at YH ⊢
    by_cases e:k=k'
    ·subst e
     rw [if_pos rfl]
     exact ⟨⟨h2.1,h2.2,h3.1,h3.2⟩,j,by omega,h1⟩
    ·rw [if_neg e] at YH ⊢
     obtain ⟨g1,i,g2,g3⟩:=hok k' hk' YH
     exact ⟨g1,i,by omega,g3⟩
   ·show (l.set k ⟨s[j]!.Mode,s[j]!.Day,true⟩)[k']! = _
    obtain ⟨k2,gk,g1,g2,_⟩:=hs.ok i (by omega)
    have ek:k2=k':=by omega
    subst ek
    rw [setB (by omega)]
    by_cases e:k=k2
    ·subst e
     rw [if_pos rfl]
     by_cases e2:i=j
     ·rw [e2]
     ·exfalso
      have:=hval i (by omega) k hik
      rw [this] at hoff;cases hoff
    ·rw [if_neg e]
     by_cases e2:i=j
     ·subst e2;omega
     ·exact hval i (by omega) k2 hik
   ·show s.length - ((j+1:Nat):Int).toNat<s.length - ((j:Nat):Int).toNat
    simp only [Int.toNat_natCast];omega
  ·right
   have hjn:j=s.length:=by omega
   refine ⟨.inl l,?_,l,rfl,hl,by omega,fun k hk hon=>(hok k hk hon).1,fun i hi=>hval i (by omega)⟩
   unfold oz
   simp only []
   rw [aO,dF (by omega),iP]) N (List.replicate w.Items.length ⟨0,0,false⟩,0) ⟨0,rfl,Nat.zero_le _,by simp,by
   show yO (List.replicate w.Items.length (⟨0,0,false⟩:ah))+0=_
   unfold yO
   rw [List.countP_replicate];rfl,fun i hi hon=>by
   exfalso
   have hon:(List.replicate w.Items.length (⟨0,0,false⟩:ah))[i]!.on=true:=hon
   rw [uD (by simpa using hi)] at hon
   simp at hon,fun i hi=>absurd hi (Nat.not_lt_zero _)⟩ (by simp only [];omega)
 rw [ho,bS]
 have hfull:(dU w).Full l:=fun i hi=>Kz h2 i (by rw [h1];exact hi)
 exact ⟨l,rfl,⟨h1,h3,fun i hi h=>by rw [hfull i hi] at h;cases h⟩,hfull,h4⟩
end
end Go.KB
namespace Go.KB
set_option linter.unusedVariables false
set_option maxRecDepth 100000
theorem Uh {N:Nat} {f:Int→Option (Int ⊕ (Unit ⊕ Bool))} (p:Int→Bool) (a e:Int) (hae:a≤e) (hf:∀ d,a≤d→d<e→f d=bif p d then some (.inl (d+1)) else some (.inr (.inr false))) (he:f e=some (.inr (.inl ()))) (hN:(e - a).toNat<N) :
    ∃ o,bM f N a=some o∧((o = .inl ()∧∀ d,a≤d→d<e→p d=true)∨(o = .inr false∧∃ d,a≤d∧d<e∧p d=false)) :=
  ni (f:=f) (I:=fun d=>a≤d∧d≤e∧∀ d',a≤d'→d'<d→p d'=true) (μ:=fun d=>(e - d).toNat) (post:=fun o=>(o = .inl ()∧∀ d,a≤d→d<e→p d=true)∨(o = .inr false∧∃ d,a≤d∧d<e∧p d=false)) (by
    rintro d ⟨h1,h2,h3⟩
    by_cases hlt:d<e
    · have hs:=hf d h1 hlt
      cases hp:p d with
      | true =>
        rw [hp,jm] at hs
        refine .inl ⟨d+1,hs,⟨by omega,by omega,fun d' g1 g2=>?_⟩,by omega⟩
        by_cases ed:d'=d
        · rw [ed];exact hp
        · exact h3 d' g1 (by omega)
      | false =>
        rw [hp,iP] at hs
        exact .inr ⟨_,hs,.inr ⟨rfl,d,h1,hlt,hp⟩⟩
    · have : d = e := by omega
      subst this
      exact .inr ⟨_,he,.inl ⟨rfl,h3⟩⟩) N a ⟨Int.le_refl _,hae,fun d' h1 h2=>by omega⟩ hN
theorem Rx {f : Nat → Int} {a : Int} {i : Nat} : ∀ {n : Nat}, i < n → lC (fun k => if k = i then a else f k) n = a + lC (fun k => if k = i then 0 else f k) n
  | 0,h=>absurd h (Nat.not_lt_zero _)
  | n+1,h=>by
    simp only [lC]
    by_cases e:n=i
    · subst e
      rw [if_pos rfl,if_pos rfl]
      have:lC (fun k=>if k=n then a else f k) n=lC (fun k=>if k=n then 0 else f k) n:=Di fun k hk=>by rw [if_neg (by omega),if_neg (by omega)]
      rw [this];omega
    · rw [if_neg e,if_neg e,Rx (by omega)];omega
def xP (w:GWork):aB:=⟨w,(List.range w.Items.length).map (pJ w),(List.range w.Items.length).map fun i=>(List.range w.Items.length).map fun k=>(dU w).ap i k⟩
section
variable {N:Nat} {w:GWork} (hN:2 ^ 64≤N) (hw:NH w) (ok:TT w) (h8:w.Items.length≤8)
include hN hw ok h8
theorem zk {i:Nat} (hi:i<w.Items.length) {s:ah} (hs:(dU w).EP i s):dV N s w.Items[i]! = some ((dU w).en i s)∧s.day<(dU w).en i s∧(dU w).en i s≤460:=by
 have _:=hN
 have _:=hw
 have _:=h8
 obtain ⟨h1,h2,h3,h4⟩:=hs
 have h2:s.mode<(w.Items[i]!.Modes.length:Int):=h2
 obtain ⟨m,hm⟩:∃ m:Nat,s.mode=(m:Int):=⟨s.mode.toNat,by omega⟩
 have hml:m<w.Items[i]!.Modes.length:=by omega
 have hd:=((ok.it i hi).2.2.md m hml).1
 have e:(dU w).en i s=s.day+w.Items[i]!.Modes[m]!.iH:=by rw [en_eq];unfold YE;rw [hm,Int.toNat_natCast]
 rw [e]
 refine ⟨?_,by omega,by omega⟩
 unfold dV
 rw [hm,iV hml,bS,BU (by omega) (by omega)]
theorem UX {i:Nat} (hi:i<w.Items.length) {s:ah} (hs:(dU w).EP i s):qE N w w.Items[i]! s=some ((dU w).st i s):=by
 have ho:=hw.o
 obtain ⟨e1,e2,e3⟩:=zk hN hw ok h8 hi hs
 rw [en_eq] at e1
 unfold qE
 have h:iL N w.dm (fun y0=>nS N y0 s w.Items[i]!)=some (w.dm.any fun y=>decide (s.day<y.To)&&decide (y.From<YE s w.Items[i]!)):=by
  unfold iL jV
  have h:((bM (fM N w.dm fun y0=>nS N y0 s w.Items[i]!) N 0).bind fun o5=>Sum.elim (fun l7=>some (-1:Int)) (fun r8=>some r8) o5)=some (DU (fun y=>decide (s.day<y.To)&&decide (y.From<YE s w.Items[i]!)) w.dm):=by
   refine tC (fun j hj=>?_) ?_ (by omega)
   ·unfold fM nS
    rw [aO,dT (by omega),jm,jX hj,bS,e1,kN (by omega)]
    simp only [aO]
    cases decide (s.day<w.dm[j].To) with
    | true=>rfl
    | false=>rfl
   ·unfold fM
    rw [aO,dF (by omega),iP]
  rw [h,bS,Nv]
 rw [h]
 show _=some (stW w w.Items[i]! s)
 unfold stW
 cases w.Items[i]!.BH with
 | true=>rfl
 | false=>rfl
theorem G6:iK N w=some (some (xP w,List.replicate w.Items.length (0:Int),List.replicate w.Items.length S0),()):=by
 have _:=ok
 have hlim:lim ≥ 1000000:=by decide
 have Ua:mk (0:Int) (w.Items.length:Int) (w.Items.length:Int)=some (List.replicate w.Items.length 0):=by
  unfold mk
  rw [dT (by omega),dT (by omega),dT (by omega)];rfl
 have hmk2:mk (⟨0,0,false⟩:ah) (w.Items.length:Int) (w.Items.length:Int)=some (List.replicate w.Items.length S0):=by
  unfold mk
  rw [dT (by omega),dT (by omega),dT (by omega)];rfl
 have hl1:∀ (i:Nat) (b:aB),i<w.Items.length→bM (mg N w ((i:Int),b)) N ([],0)=some ((List.range w.Items.length).map fun k=>(dU w).ap i k):=by
  intro i b hi
  refine GZ (List.range w.Items.length) (fun k=>(dU w).ap i k) (fun k hk acc ha=>?_) (fun acc=>?_) (by rw [List.length_range];omega)
  ·rw [List.length_range] at hk
   unfold mg
   simp only []
   rw [aO,dT (by omega),jm,rC,List.getElem_range]
   have e:(dU w).ap i k=(!decide ((i:Int)=(k:Int))&&RX w w.Items[i]! w.Items[k]!):=by
    show (decide (i≠k)&&_)=_
    congr 1
    by_cases h:i=k
    ·rw [dF (not_not_intro h),dT (by omega)];rfl
    ·rw [dT h,dF (by omega)];rfl
   rw [e,Rq hN hw hi hk]
   by_cases h:(i:Int)=(k:Int)
   ·rw [dT h]
    simp only [Bool.not_true,iP,bS,Bool.false_and]
    rw [GX (by rw [List.length_singleton];omega),bS,kN (by omega)]
   ·rw [dF h]
    simp only [Bool.not_false,jm,bS,Bool.true_and]
    rw [GX (by rw [List.length_singleton];omega),bS,kN (by omega)]
  ·unfold mg
   simp only []
   rw [List.length_range,aO,dF (by omega),iP]
 unfold iK
 rw [EI hN hw,bS,Ua,bS,hmk2,bS]
 have:=tu (f:=kL N w) (n:=w.Items.length) (N:=N) (fun i=>((i:Int),(⟨w,(List.range w.Items.length).map (pJ w),(List.range i).map fun i=>(List.range w.Items.length).map fun k=>(dU w).ap i k⟩:aB))) (xP w) (fun i hi=>by
  unfold kL
  simp only []
  rw [aO,dT (by omega),jm,hl1 i _ hi,bS,GX (by rw [List.length_singleton,List.length_map,List.length_range];omega),bS,kN (by omega),List.range_succ,List.map_append];rfl) (by
  unfold kL
  simp only []
  rw [aO,dF (by omega),iP];rfl) (by omega)
 have this:bM (kL N w) N (0,(⟨w,(List.range w.Items.length).map (pJ w),[]⟩:aB))=_:=this
 rw [this];rfl
theorem ZU {k:Nat} (hk:k<w.Items.length) {s:ah} (hs:s.on=true→(dU w).EP k s) {d:Int}:sO N s w.Items[k]! d=some ((dU w).EJ k s d w.Items[k]!.iq):=by
 unfold sO
 cases hon:s.on with
 | false=>rw [Pb.Lp hon];rfl
 | true =>
  have hs:=hs hon
  obtain ⟨e1,e2,e3⟩:=zk hN hw ok h8 hk hs
  have hm1:s.mode<(w.Items[k]!.Modes.length:Int):=hs.m1
  have hm0:=hs.m0
  obtain ⟨m,hm⟩:∃ m:Nat,s.mode=(m:Int):=⟨s.mode.toNat,by omega⟩
  have hcr:(dU w).EJ k s d w.Items[k]!.iq=if s.day≤d∧d<(dU w).en k s then w.Items[k]!.Modes[m]!.gB else 0:=by
   unfold Pb.EJ
   by_cases h:s.day≤d∧d<(dU w).en k s
   ·rw [if_pos h,if_pos ⟨hon,rfl,h⟩]
    show w.Items[k]!.Modes[s.mode.toNat]!.gB=_
    rw [hm,Int.toNat_natCast]
   ·rw [if_neg h,if_neg fun x=>h x.2.2]
  rw [hcr]
  simp only [Bool.not_true,Bool.false_or,aO,vX]
  by_cases h1:d<s.day
  ·rw [dT h1,if_neg (by omega)];rfl
  ·rw [dF h1,Bool.not_false,jm,e1,bS,Bool.false_or]
   by_cases h2:(dU w).en k s≤d
   ·rw [dT h2,if_neg (by omega)];rfl
   ·rw [dF h2,if_pos (by omega),iP,hm,iV (by omega)];rfl
variable {F:List Int} {l:List ah} (hF:F.length=w.Items.length) (La:∀ i,i<w.Items.length→0≤F[i]! ∧ F[i]! ≤ 400) (hl:(dU w).Wf l)
include hl in
theorem sum_eq {i:Nat} (hi:i<w.Items.length) {s:ah} (hs:(dU w).EP i s) (hon:s.on=true) {d:Int} (h1:s.day≤d) (h2:d<(dU w).en i s):bM (jy N (xP w) l (i:Int) w.Items[i]! d) N ((dU w).cr i s.mode,0)=some ((dU w).use (l.set i s) d ((dU w).tr i)):=by
  have hll:l.length=w.Items.length:=hl.len
  have hpb:=BA ok h8
  have hcb:∀ k,k<w.Items.length→0≤(dU w).EJ k l[k]! d ((dU w).tr i)∧(dU w).EJ k l[k]! d ((dU w).tr i)≤1000:=fun k hk=>by
    refine ⟨Pb.PW hpb hk (hl.on k hk),?_⟩
    unfold Pb.EJ
    split
    · rename_i h
      have:=hl.on k hk h.1
      exact (hpb.cr k hk _ this.m0 this.m1).2
    · omega
  have hus:(dU w).use (l.set i s) d ((dU w).tr i)=(dU w).cr i s.mode+lC (fun k=>if k=i then 0 else (dU w).EJ k l[k]! d ((dU w).tr i)) w.Items.length:=by
    rw [← Rx hi]
    refine Di fun k hk=>?_
    have hk:k<w.Items.length:=hk
    rw [setB (by omega)]
    by_cases e:i=k
    · subst e
      rw [if_pos rfl,if_pos rfl]
      unfold Pb.EJ
      rw [if_pos ⟨hon,rfl,h1,h2⟩]
    · rw [if_neg e,if_neg (Ne.symm e)]
  have hcr:=hpb.cr i hi s.mode hs.m0 hs.m1
  have hb:∀ k,k≤w.Items.length→0≤lC (fun k=>if k=i then 0 else (dU w).EJ k l[k]! d ((dU w).tr i)) k∧lC (fun k=>if k=i then 0 else (dU w).EJ k l[k]! d ((dU w).tr i)) k≤k * 1000:=fun k hk=>by
    refine ⟨FU fun j hj=>?_,DT fun j hj=>?_⟩
    · split
      · omega
      · exact (hcb j (by omega)).1
    · split
      · omega
      · exact (hcb j (by omega)).2
  rw [hus]
  have:=tu (f:=jy N (xP w) l (i:Int) w.Items[i]! d) (n:=w.Items.length) (N:=N) (fun k=>((dU w).cr i s.mode+lC (fun k=>if k=i then 0 else (dU w).EJ k l[k]! d ((dU w).tr i)) k,(k:Int))) ((dU w).cr i s.mode+lC (fun k=>if k=i then 0 else (dU w).EJ k l[k]! d ((dU w).tr i)) w.Items.length) (fun k hk=>by
    have hbk:=hb k (by omega)
    have hck:=hcb k hk
    unfold jy
    simp only []
    rw [hll,aO,dT (by omega),jm,iV (by omega),bS,rC,kN (by omega)]
    have hit:idx (xP w).w.Items (k:Int)=some w.Items[k]!:=iV hk
    rw [hit]
    simp only [bS]
    rw [ZU hN hw ok h8 hk (hl.on k hk)]
    simp only [bS,lC]
    by_cases e:k=i
    · subst e
      rw [dT rfl,if_pos rfl]
      simp only [Bool.not_true,iP,bS,Bool.false_and]
      rw [Int.add_zero]
    · rw [dF (p := (k : Int) = (i : Int)) (by omega), if_neg e]
      simp only [Bool.not_false,jm,bS,Bool.true_and,rH]
      by_cases ht:w.Items[k]!.iq=w.Items[i]!.iq
      · rw [dT ht,jm,ht]
        have hck2:0≤(dU w).EJ k l[k]! d w.Items[i]!.iq∧(dU w).EJ k l[k]! d w.Items[i]!.iq≤1000:=hck
        rw [BU (by omega) (by omega)]
        congr 3
        rw [Int.add_assoc];rfl
      · rw [dF ht,iP]
        have:(dU w).EJ k l[k]! d ((dU w).tr i)=0:=by
          unfold Pb.EJ
          rw [if_neg fun x=>ht x.2.1]
        rw [this,Int.add_zero]) (by
    unfold jy
    simp only []
    rw [hll,aO,dF (by omega),iP]) (by omega)
  simpa [lC] using this
include hl in
theorem Wv {i:Nat} (hi:i<w.Items.length) {s:ah} (hs:(dU w).EP i s) (hon:s.on=true):∃ b,oU N (xP w) F l (i:Int) s=some b∧(b=true↔∀ d,s.day≤d→d<(dU w).en i s→(dU w).use (l.set i s) d ((dU w).tr i)≤(dU w).cap i):=by
 have ht:=hw.t
 obtain ⟨t,h1,h2,h3⟩:=GY (ok.it i hi).2.2.tr
 rw [yQ] at h1
 obtain ⟨e1,e2,e3⟩:=zk hN hw ok h8 hi hs
 have hm1:s.mode<(w.Items[i]!.Modes.length:Int):=hs.m1
 have hm0:=hs.m0
 have hd0:=hs.d0
 obtain ⟨m,hm⟩:∃ m:Nat,s.mode=(m:Int):=⟨s.mode.toNat,by omega⟩
 have hcr:(dU w).cr i s.mode=w.Items[i]!.Modes[m]!.gB:=by
  show w.Items[i]!.Modes[s.mode.toNat]!.gB=_
  rw [hm,Int.toNat_natCast]
 have hcap:(dU w).cap i=w.aY[t]!.gB:=by
  show w.aY[(BV (JJ w) w.Items[i]!.iq).toNat]!.gB=_
  rw [h2,Int.toNat_natCast]
 unfold oU
 rw [show idx (xP w).w.Items (i:Int)=some w.Items[i]! from iV hi,bS,show jw N (xP w).w=some (JJ w) from Lr hN hw ok,bS,JA (by rw [yQ];omega) (by omega),bS,show DU (fun x=>decide (w.Items[i]!.iq=x)) (JJ w)=(t:Int) from h2,show idx (xP w).w.aY (t:Int)=some w.aY[t]! from iV h1,bS]
 obtain ⟨o,ho,hc⟩:=Uh (f:=kD N (xP w) l (i:Int) s w.Items[i]! w.aY[t]!) (N:=N) (fun d=>decide ((dU w).use (l.set i s) d ((dU w).tr i)≤(dU w).cap i)) s.day ((dU w).en i s) (by omega) (fun d hd1 hd2=>by
  have hsum:=sum_eq hN hw ok h8 hl hi hs hon hd1 hd2
  rw [hcr] at hsum
  unfold kD
  rw [e1,bS,aO,dT hd2,jm,hm,iV (by omega),bS,hsum,bS,jE,← hcap,BU (by omega) (by omega)]
  by_cases h:(dU w).cap i<(dU w).use (l.set i s) d ((dU w).tr i)
  ·rw [dT h,dF (by omega)];rfl
  ·rw [dF h,dT (by omega)];rfl) (by
  unfold kD
  rw [e1,bS,aO,dF (by omega),iP]) (by omega)
 rw [ho,bS]
 rcases hc with ⟨rfl,h⟩ | ⟨rfl,d,g1,g2,g3⟩
 ·exact ⟨true,rfl,fun _ d hd1 hd2=>of_decide_eq_true (h d hd1 hd2),fun _=>rfl⟩
 ·exact ⟨false,rfl,fun x=>(by cases x),fun x=>(by have:=x d g1 g2;rw [dT this] at g3;cases g3)⟩
include hF La hl in
theorem Va {i:Nat} (hi:i<w.Items.length) {s:ah} (hs:(dU w).EP i s) (hon:s.on=true):∃ b,jr N (xP w) F l (i:Int) s=some b∧(b=true↔(dU w).Fits (fun j=>F[j]!) l i s):=by
  have _:=La
  have hll:l.length=w.Items.length:=hl.len
  obtain ⟨e1,e2,e3⟩:=zk hN hw ok h8 hi hs
  obtain ⟨bm,m1,m2⟩:=Wv hN hw ok h8 hl (F:=F) hi hs hon
  unfold jr
  rw [show idx (xP w).w.Items (i:Int)=some w.Items[i]! from iV hi,bS,iV (by omega),bS,e1]
  have hst:qE N (xP w).w w.Items[i]! s=some ((dU w).st i s):=UX hN hw ok h8 hi hs
  rw [hst]
  simp only [aO,jE]
  by_cases a1:s.day<F[i]!
  · rw [dT a1]
    exact ⟨false,rfl,fun x=>(by cases x),fun x=>by have:F[i]! ≤ s.day:=x.solo.1;omega⟩
  · rw [dF a1,Bool.not_false,jm,bS,Bool.false_or]
    by_cases a2:(xP w).w.Last<(dU w).en i s
    · rw [dT a2]
      refine ⟨false,rfl,fun x=>(by cases x),fun x=>?_⟩
      have:(dU w).en i s≤w.Last:=x.solo.2.1
      have a2:w.Last<(dU w).en i s:=a2
      omega
    · rw [dF a2,Bool.not_false,jm,bS,Bool.false_or]
      cases a3:(dU w).st i s with
      | true =>
        exact ⟨false,rfl,fun x=>(by cases x),fun x=>by have:(dU w).st i s=false:=x.solo.2.2;rw [a3] at this;cases this⟩
      | false =>
        rw [iP]
        have hsolo:(dU w).solo (fun j=>F[j]!) i s:=⟨by show F[i]! ≤ s.day;omega,by show (dU w).en i s≤w.Last;have a2:¬ w.Last<(dU w).en i s:=a2;omega,a3⟩
        obtain ⟨o,ho,hc⟩:=Uh (f:=kY N (xP w) l (i:Int) s w.Items[i]!) (N:=N) (fun k=>l[k.toNat]!.on && !decide (k=(i:Int)) |> fun g=>!g||((!((dU w).pri i k.toNat)||decide ((dU w).en k.toNat l[k.toNat]! ≤ s.day))&&(!((dU w).pri k.toNat i)||decide ((dU w).en i s≤l[k.toNat]!.day))&&(!((dU w).ap i k.toNat)||decide ((dU w).en k.toNat l[k.toNat]! ≤ s.day∨(dU w).en i s≤l[k.toNat]!.day)))) 0 (w.Items.length:Int) (by omega) (fun k hk0 hk1=>by
          obtain ⟨k,rfl⟩:∃ j:Nat,k=(j:Int):=⟨k.toNat,by omega⟩
          have hk:k<w.Items.length:=by omega
          have g1:idx (xP w).w.Items (k:Int)=some w.Items[k]!:=iV hk
          have g2:idx (xP w).prior (i:Int)=some (pJ w i):=by
            rw [jX (by show i<((List.range w.Items.length).map (pJ w)).length;simpa using hi)]
            simp [xP]
          have g3:idx (xP w).prior (k:Int)=some (pJ w k):=by
            rw [jX (by show k<((List.range w.Items.length).map (pJ w)).length;simpa using hk)]
            simp [xP]
          have g4:idx (xP w).apart (i:Int)=some ((List.range w.Items.length).map fun k=>(dU w).ap i k):=by
            rw [jX (by show i<((List.range w.Items.length).map fun i=>(List.range w.Items.length).map fun k=>(dU w).ap i k).length;simpa using hi)]
            simp [xP]
          have g5:idx ((List.range w.Items.length).map fun k=>(dU w).ap i k) (k:Int)=some ((dU w).ap i k):=by
            rw [jX (by simpa using hk)]
            simp
          have hbl:∀ j,j<w.Items.length→(pJ w j).length<1000000:=fun j hj=>by
            have:=hw.a j hj
            unfold pJ;rw [List.length_map];omega
          have c1:dI N (pJ w i) (k:Int)=some ((dU w).pri i k):=Ba (hbl i hi) (by omega)
          have c2:dI N (pJ w k) (i:Int)=some ((dU w).pri k i):=Ba (hbl k hk) (by omega)
          unfold kY
          rw [hll,aO,dT (by omega),jm,iV (by omega),bS,yP,Int.toNat_natCast,BU (n:=(k:Int)+1) (by omega) (by omega)]
          cases hko:l[k]!.on with
          | false=>rfl
          | true =>
            by_cases e:(k:Int)=(i:Int)
            · rw [dT e];rfl
            · obtain ⟨e4,e5,e6⟩:=zk hN hw ok h8 hk (hl.on k hk hko)
              rw [dF e]
              simp only [Bool.not_true,Bool.or_self,iP,Bool.not_false,Bool.and_self,Bool.false_or]
              rw [g1,bS,g2,bS,c1,bS,e4,e1,g3]
              simp only [g4,g5,bS,jE,aO]
              obtain ⟨p2,hp2⟩:∃ p2,p2=(dU w).pri k i:=⟨_,rfl⟩
              rw [← hp2] at c2 ⊢
              generalize (dU w).pri i k=p1
              generalize (dU w).ap i k=p3
              generalize (dU w).en k l[k]! = x1
              generalize (dU w).en i s=x2
              generalize l[k]!.day=x3
              by_cases y1:s.day<x1
              · by_cases y2 : x3 < x2
                · cases p1 <;> cases p2 <;> cases p3 <;> simp only [Bool.not_false,Bool.not_true,Bool.false_and,Bool.true_and,Bool.and_false,Bool.and_true,Bool.false_or,Bool.true_or,Bool.or_false,jm,iP,bS,c2,dT y1,dF (p:=x1≤s.day) (by omega),dT y2,dF (p:=x2≤x3) (by omega),dF (p:=x1≤s.day∨x2≤x3) (by omega)]
                · cases p1 <;> cases p2 <;> cases p3 <;> simp only [Bool.not_false,Bool.not_true,Bool.false_and,Bool.true_and,Bool.and_true,Bool.false_or,Bool.true_or,Bool.or_false,Bool.or_true,jm,iP,bS,c2,dT y1,dF (p:=x1≤s.day) (by omega),dF y2,dT (p:=x2≤x3) (by omega),dT (p:=x1≤s.day∨x2≤x3) (by omega)]
              · by_cases y2 : x3 < x2
                · cases p1 <;> cases p2 <;> cases p3 <;> simp only [Bool.not_false,Bool.not_true,Bool.false_and,Bool.true_and,Bool.and_false,Bool.and_true,Bool.false_or,Bool.or_false,Bool.or_true,jm,iP,bS,c2,dF y1,dT (p:=x1≤s.day) (by omega),dT y2,dF (p:=x2≤x3) (by omega),dT (p:=x1≤s.day∨x2≤x3) (by omega)]
                · cases p1 <;> cases p2 <;> cases p3 <;> simp only [Bool.not_false,Bool.not_true,Bool.false_and,Bool.true_and,Bool.and_true,Bool.false_or,Bool.or_true,jm,iP,bS,c2,dF y1,dT (p:=x1≤s.day) (by omega),dF y2,dT (p:=x2≤x3) (by omega),dT (p:=x1≤s.day∨x2≤x3) (by omega)]) (by
          unfold kY
          rw [hll,aO,dF (by omega),iP]) (by omega)
        rw [ho,bS]
        have hiff:∀ k:Nat,(l[k]!.on && !decide ((k:Int)=(i:Int)) |> fun g=>!g||((!((dU w).pri i k)||decide ((dU w).en k l[k]! ≤ s.day))&&(!((dU w).pri k i)||decide ((dU w).en i s≤l[k]!.day))&&(!((dU w).ap i k)||decide ((dU w).en k l[k]! ≤ s.day∨(dU w).en i s≤l[k]!.day))))=true↔(k≠i→l[k]!.on=true→(dU w).pair i k s l[k]!):=by
          intro k
          unfold Pb.pair
          by_cases e:k=i
          · rw [dT (p := (k : Int) = (i : Int)) (by omega)]
            simp [e]
          · rw [dF (p := (k : Int) = (i : Int)) (by omega)]
            cases l[k]!.on with
            | false=>simp
            | true =>
              simp only [Bool.not_false,Bool.and_self,Bool.not_true,Bool.false_or,Bool.and_eq_true,Bool.or_eq_true,Bool.not_eq_true',decide_eq_true_eq,ne_eq,e,not_false_eq_true,true_imp_iff]
              cases (dU w).pri i k <;> cases (dU w).pri k i <;> cases (dU w).ap i k <;> simp [and_assoc]
        rcases hc with ⟨rfl,h⟩ | ⟨rfl,d,q1,q2,q3⟩
        · rw [Sum.elim_inl,m1]
          refine ⟨bm,rfl,fun hb=>⟨hsolo,fun k hk=>?_,m2.1 hb⟩,fun hf=>m2.2 hf.use⟩
          have:=h (k:Int) (by omega) (by have hk:k<w.Items.length:=hk;omega)
          rw [Int.toNat_natCast] at this
          exact (hiff k).1 this
        · refine ⟨false, rfl, fun x => (by cases x), fun hf => ?_⟩
          obtain ⟨k,rfl⟩:∃ j:Nat,d=(j:Int):=⟨d.toNat,by omega⟩
          rw [Int.toNat_natCast] at q3
          have:=(hiff k).2 (fun hki hko=>hf.pair k (by show k<w.Items.length;omega) hki hko)
          rw [this] at q3;cases q3
end
end Go.KB
namespace Go.KB
set_option linter.unusedVariables false
set_option maxRecDepth 100000
def Jv (f:Nat→Int):Nat→Int
 | 0=>0
 | n+1=>max (Jv f n) (f n)
theorem Ja {f:Nat→Int} {b:Int}:∀ {n},0≤b→(∀ i,i<n→f i≤b)→Jv f n≤b
 | 0,h,_=>h
 | n+1,h,g=>by
  have h1:=Ja (f:=f) (n:=n) h (fun i hi=>g i (by omega));have h2:=g n (by omega)
  simp only [Jv];omega
theorem AO {f:Nat→Int}:∀ {n},0≤Jv f n
 | 0=>Int.le_refl _
 | n+1=>by have:=AO (f:=f) (n:=n);simp only [Jv];omega
theorem Ky {f:Nat→Int}:∀ {n i},i<n→f i≤Jv f n
 | 0,i,h=>absurd h (Nat.not_lt_zero _)
 | n+1,i,h=>by
  simp only [Jv]
  by_cases e:i=n
  ·subst e;omega
  ·have:=Ky (f:=f) (n:=n) (i:=i) (by omega);omega
def wS (w:GWork) (l:List ah):Int:=Jv (fun i=>if l[i]!.on=true then (dU w).en i l[i]! else 0) w.Items.length
def YI (w:GWork) (i:Nat):Int:=w.aY[(BV (JJ w) w.Items[i]!.iq).toNat]!.Ih
def JB (w:GWork) (i:Nat) (m:Int):Int:=w.Items[i]!.Modes[m.toNat]!.iH * w.Items[i]!.Modes[m.toNat]!.gB * YI w i
def Dj (w:GWork) (d:Int):Int:=w.FN * d+w.Late * max 0 (d - w.Due)
def DR (w:GWork) (l:List ah):Int:=Dj w (wS w l)+lC (fun i=>if l[i]!.on=true then JB w i l[i]!.mode else 0) w.Items.length
def Wp:Option Nat:=some 28
def Ir:Option Nat:=some 32
section
variable {N:Nat} {w:GWork} (hN:2 ^ 64≤N) (hw:NH w) (ok:TT w) (h8:w.Items.length≤8)
include hN hw ok h8
theorem Ry {F:List Int} {l:List ah} (hF:F.length=w.Items.length) (La:∀ i,i<w.Items.length→0≤F[i]! ∧ F[i]! ≤ 400) (hl:(dU w).Wf l) {i m:Nat} (hi:i<w.Items.length) (hm:m<w.Items[i]!.Modes.length):∃ r,mY N (xP w) F l (i:Int) (m:Int)=some r∧((r.2=true∧(dU w).Uk (fun j=>F[j]!) l i (m:Int) r.1)∨(r.2=false∧∀ s,¬ (dU w).Uk (fun j=>F[j]!) l i (m:Int) s)):=by
  have hmd:=((ok.it i hi).2.2.md m hm).1
  have hlast:=ok.last
  have hFi:=La i hi
  unfold mY
  rw [iV (by omega),bS]
  obtain ⟨o,ho,hc⟩:=ni (f:=jg N (xP w) F l (i:Int) (m:Int)) (I:=fun q=>F[i]! ≤ q.2∧q.2≤400∧∀ d,F[i]! ≤ d→d<q.2→¬ (dU w).Fits (fun j=>F[j]!) l i ⟨(m:Int),d,true⟩) (μ:=fun q=>(w.Last+1 - q.2).toNat) (post:=fun o=>(∃ s,o = .inr (s,true)∧(dU w).Uk (fun j=>F[j]!) l i (m:Int) s)∨(∃ s,o = .inl s)∧∀ s,¬ (dU w).Uk (fun j=>F[j]!) l i (m:Int) s) (by
    rintro ⟨z,d⟩ ⟨h1,h11,h2⟩
    simp only at h1 h11 h2
    have hstep:∀ b,(d+w.Items[i]!.Modes[m]!.iH≤w.Last→jr N (xP w) F l (i:Int) ⟨(m:Int),d,true⟩=some b)→jg N (xP w) F l (i:Int) (m:Int) (z,d)=bif decide (d+w.Items[i]!.Modes[m]!.iH≤w.Last) then (bif b then some (.inr (.inr ((⟨(m:Int),d,true⟩:ah),true))) else some (.inl (z,d+1))) else some (.inr (.inl z)):=by
      intro b hb
      unfold jg
      simp only []
      rw [show idx (xP w).w.Items (i:Int)=some w.Items[i]! from iV hi,bS,iV hm,bS,BU (n:=d+w.Items[i]!.Modes[m]!.iH) (by omega) (by omega),yt]
      by_cases h:d+w.Items[i]!.Modes[m]!.iH≤w.Last
      · have h':d+w.Items[i]!.Modes[m]!.iH≤(xP w).w.Last:=h
        rw [dT h,dT h',jm,hb h,bS,BU (n:=d+1) (by omega) (by omega)];rfl
      · have h':¬ d+w.Items[i]!.Modes[m]!.iH≤(xP w).w.Last:=h
        rw [dF h,dF h'];rfl
    by_cases hle:d+w.Items[i]!.Modes[m]!.iH≤w.Last
    · have hs : (dU w).EP i ⟨(m : Int), d, true⟩ := ⟨by show (0 : Int) ≤ (m : Int); omega, by show (m : Int) < (w.Items[i]!.Modes.length : Int); omega, by show 0 ≤ d; omega, by show d ≤ 400; omega⟩
      obtain ⟨b,hb1,hb2⟩:=Va hN hw ok h8 hF La hl hi hs rfl
      have hst:=hstep b (fun _=>hb1)
      rw [dT hle,jm] at hst
      cases b with
      | true =>
        rw [jm] at hst
        exact .inr ⟨_,hst,.inl ⟨_,rfl,rfl,rfl,hb2.1 rfl,h2⟩⟩
      | false =>
        rw [iP] at hst
        refine .inl ⟨_,hst,⟨by simp only [];omega,by simp only [];omega,fun d' g1 g2 hf=>?_⟩,by simp only [];omega⟩
        by_cases e:d'=d
        · subst e;have:=hb2.2 hf;cases this
        · exact h2 d' g1 (by simp only [] at g2;omega) hf
    · right
      have hst:jg N (xP w) F l (i:Int) (m:Int) (z,d)=some (.inr (.inl z)):=by
        have:=hstep false (fun x=>absurd x hle)
        rw [this,dF hle,iP]
      refine ⟨_,hst,.inr ⟨⟨z,rfl⟩,fun s hs=>?_⟩⟩
      have h3:(dU w).en i s≤w.Last:=hs.fits.solo.2.1
      have h4:F[i]! ≤ s.day:=hs.fits.solo.1
      have e:=Df hs.mode hs.on
      have h5:(dU w).en i s=s.day+w.Items[i]!.Modes[m]!.iH:=by
        rw [e]
        show s.day+w.Items[i]!.Modes[((m:Nat):Int).toNat]!.iH=_
        rw [Int.toNat_natCast]
      exact h2 s.day h4 (by omega) (by rw [← e];exact hs.fits)) N (S0,F[i]!) ⟨Int.le_refl _,hFi.2,fun d h1 h2=>by simp only [] at h2;omega⟩ (by simp only [];omega)
  rw [ho,bS]
  rcases hc with ⟨s,rfl,h⟩ | ⟨⟨s,rfl⟩,h⟩
  · exact ⟨(s,true),rfl,.inl ⟨rfl,h⟩⟩
  · exact ⟨(S0,false),rfl,.inr ⟨rfl,h⟩⟩
end
end Go.KB
namespace Go.KB
set_option linter.unusedVariables false
set_option maxRecDepth 100000
theorem Ru {l:List Int} {i j:Nat} {v:Int} (hj:j<l.length):(l.set i v)[j]! = if i=j then v else l[j]!:=by
 rw [uD (by simpa using hj),List.getElem_set]
 by_cases h:i=j
 ·rw [if_pos h,if_pos h]
 ·rw [if_neg h,if_neg h,uD hj]
def Iw (w:GWork) (c:Bool) (l:List ah):Int:=bif c then DR w l else wS w l
def Oz (c:Bool):Option Nat:=bif c then Ir else Wp
structure G5 (w:GWork) (c:Bool) (r:List Int):Prop where
 len:r.length=w.Items.length
 bd:∀ i,i<w.Items.length→0≤r[i]! ∧ r[i]! ≤ 60000000000
 low:∀ i,i<w.Items.length→∀ m:Int,0≤m→m<w.Items[i]!.Modes.length→r[i]! ≤ (bif c then JB w i m else 0)
section
variable {N:Nat} {w:GWork} (hN:2 ^ 64≤N) (hw:NH w) (ok:TT w) (h8:w.Items.length≤8)
include hN hw ok h8
theorem YJ {l:List ah} (hl:(dU w).Wf l) {k:Nat} (hk:k≤w.Items.length):0≤Jv (fun i=>if l[i]!.on=true then (dU w).en i l[i]! else 0) k∧Jv (fun i=>if l[i]!.on=true then (dU w).en i l[i]! else 0) k≤460:=by
 refine ⟨AO,Ja (by omega) fun i hi=>?_⟩
 split
 ·rename_i h
  exact (zk hN hw ok h8 (by omega) (hl.on i (by show i<w.Items.length;omega) h)).2.2
 ·omega
theorem TW {l:List ah} (hl:(dU w).Wf l):jZ N w l=some (wS w l):=by
 have hll:l.length=w.Items.length:=hl.len
 unfold jZ
 have:=tu (f:=jJ N w l) (n:=w.Items.length) (N:=N) (fun k=>(Jv (fun i=>if l[i]!.on=true then (dU w).en i l[i]! else 0) k,(k:Int))) (wS w l) (fun k hk=>by
  unfold jJ
  simp only []
  rw [hll,aO,dT (by omega),jm,iV (by omega),bS,kN (by omega)]
  cases hon:l[k]!.on with
  | false =>
   rw [iP]
   simp only [Jv]
   rw [hon,if_neg (by simp)]
   have:=AO (f:=fun i=>if l[i]!.on=true then (dU w).en i l[i]! else 0) (n:=k)
   rw [show max (Jv (fun i=>if l[i]!.on=true then (dU w).en i l[i]! else 0) k) 0=Jv (fun i=>if l[i]!.on=true then (dU w).en i l[i]! else 0) k by omega]
  | true =>
   rw [jm,iV hk,bS,(zk hN hw ok h8 hk (hl.on k hk hon)).1,bS]
   simp only [Jv]
   rw [hon,if_pos rfl]) (by
  unfold jJ
  simp only []
  rw [hll,aO,dF (by omega),iP];rfl) (by omega)
 have this:bM (jJ N w l) N (0,0)=_:=this
 rw [this];rfl
theorem Vb {i:Nat} (hi:i<w.Items.length) {m:Int} (h0:0≤m) (h1:m<w.Items[i]!.Modes.length):0≤JB w i m∧JB w i m≤60000000000:=by
 have _:=hN
 have _:=hw
 have _:=h8
 obtain ⟨⟨a1,a2⟩,⟨b1,b2⟩,_⟩:=(ok.it i hi).2.2.md m.toNat (by omega)
 obtain ⟨t,h1,h2,h3⟩:=GY (ok.it i hi).2.2.tr
 rw [yQ] at h1
 obtain ⟨_,_,_,c1,c2⟩:=ok.tr t h1
 unfold JB YI
 rw [h2,Int.toNat_natCast]
 have d1:0≤w.Items[i]!.Modes[m.toNat]!.iH * w.Items[i]!.Modes[m.toNat]!.gB:=Int.mul_nonneg (by omega) b1
 have d2:w.Items[i]!.Modes[m.toNat]!.iH * w.Items[i]!.Modes[m.toNat]!.gB≤60 * 1000:=Int.mul_le_mul a2 b2 b1 (by omega)
 refine ⟨Int.mul_nonneg d1 c1,?_⟩
 have:=Int.mul_le_mul (show w.Items[i]!.Modes[m.toNat]!.iH * w.Items[i]!.Modes[m.toNat]!.gB≤60 * 1000 from d2) c2 c1 (by omega)
 omega
theorem Rz {i m:Nat} (hi:i<w.Items.length) (hm:m<w.Items[i]!.Modes.length):uF N w (i:Int) (m:Int)=some (JB w i (m:Int)):=by
 have ht:=hw.t
 have hb:=Vb hN hw ok h8 hi (m:=(m:Int)) (by omega) (by omega)
 obtain ⟨⟨a1,a2⟩,⟨b1,b2⟩,_⟩:=(ok.it i hi).2.2.md m hm
 obtain ⟨t,h1,h2,h3⟩:=GY (ok.it i hi).2.2.tr
 rw [yQ] at h1
 have d1:0≤w.Items[i]!.Modes[m]!.iH * w.Items[i]!.Modes[m]!.gB:=Int.mul_nonneg (by omega) b1
 have d2:w.Items[i]!.Modes[m]!.iH * w.Items[i]!.Modes[m]!.gB≤60 * 1000:=Int.mul_le_mul a2 b2 b1 (by omega)
 unfold JB YI at hb ⊢
 rw [h2,Int.toNat_natCast,Int.toNat_natCast] at hb ⊢
 unfold uF
 rw [iV hi,bS,Lr hN hw ok,bS,JA (by rw [yQ];omega) (by omega),bS,show DU (fun x=>decide (w.Items[i]!.iq=x)) (JJ w)=(t:Int) from h2,iV h1,bS,iV hm,bS,bS,BU (n:=w.Items[i]!.Modes[m]!.iH * w.Items[i]!.Modes[m]!.gB) (by omega) (by omega),BU (by omega) (by omega)]
theorem Vd {d:Int} (h0:0≤d) (h1:d≤460):0≤Dj w d∧Dj w d≤920000000000:=by
 have _:=hN
 have _:=hw
 have _:=h8
 have h2:=ok.hire;have h3:=ok.late;have h4:=ok.due
 have a1:0≤w.FN * d:=Int.mul_nonneg h2.1 h0
 have a2:w.FN * d≤1000000000 * 460:=Int.mul_le_mul h2.2 h1 h0 (by omega)
 have a3:0≤w.Late * max 0 (d - w.Due):=Int.mul_nonneg h3.1 (by omega)
 have a4:w.Late * max 0 (d - w.Due)≤1000000000 * 460:=Int.mul_le_mul h3.2 (by omega) (by omega) (by omega)
 unfold Dj
 omega
theorem OA {d d':Int} (h:d≤d'):Dj w d≤Dj w d':=by
 have _:=hN
 have _:=hw
 have _:=h8
 have h2:=ok.hire;have h3:=ok.late
 unfold Dj
 have a1:w.FN * d≤w.FN * d':=Int.mul_le_mul_of_nonneg_left h h2.1
 have a2:w.Late * max 0 (d - w.Due)≤w.Late * max 0 (d' - w.Due):=Int.mul_le_mul_of_nonneg_left (by omega) h3.1
 omega
theorem ZV {d:Int} (h0:0≤d) (h1:d≤460):xK N w d=some (Dj w d):=by
 have _:=hN
 have _:=hw
 have _:=h8
 have h2:=ok.hire;have h3:=ok.late;have h4:=ok.due
 have a1:0≤w.FN * d:=Int.mul_nonneg h2.1 h0
 have a2:w.FN * d≤1000000000 * 460:=Int.mul_le_mul h2.2 h1 h0 (by omega)
 have a3:0≤w.Late * max 0 (d - w.Due):=Int.mul_nonneg h3.1 (by omega)
 have a4:w.Late * max 0 (d - w.Due)≤1000000000 * 460:=Int.mul_le_mul h3.2 (by omega) (by omega) (by omega)
 unfold xK Dj
 rw [BU (n:=d - w.Due) (by omega) (by omega),BU (n:=w.FN * d) (by omega) (by omega),BU (n:=w.Late * max 0 (d - w.Due)) (by omega) (by omega),BU (by omega) (by omega)]
theorem Ve {l:List ah} (hl:(dU w).Wf l) {k:Nat} (hk:k≤w.Items.length):0≤lC (fun i=>if l[i]!.on=true then JB w i l[i]!.mode else 0) k∧lC (fun i=>if l[i]!.on=true then JB w i l[i]!.mode else 0) k≤k * 60000000000:=by
 refine ⟨FU fun i hi=>?_,DT fun i hi=>?_⟩
 all_goals
  split
  ·rename_i h
   have:=hl.on i (by show i<w.Items.length;omega) h
   have:=Vb hN hw ok h8 (i:=i) (by omega) this.m0 this.m1
   omega
  ·omega
theorem U3 {l:List ah} (hl:(dU w).Wf l):rf N w l=some (DR w l):=by
 have hll:l.length=w.Items.length:=hl.len
 have hdb:=YJ hN hw ok h8 hl (Nat.le_refl _)
 have hdb:0≤wS w l∧wS w l≤460:=hdb
 have hrb:=Vd hN hw ok h8 hdb.1 hdb.2
 unfold rf
 rw [TW hN hw ok h8 hl,bS,ZV hN hw ok h8 hdb.1 hdb.2,bS]
 have hrb:0≤Dj w (wS w l)∧Dj w (wS w l)≤920000000000:=hrb
 have:=tu (f:=lK N w l) (n:=w.Items.length) (N:=N) (fun k=>(Dj w (wS w l)+lC (fun i=>if l[i]!.on=true then JB w i l[i]!.mode else 0) k,(k:Int))) (DR w l) (fun k hk=>by
  have hsb:=Ve hN hw ok h8 hl (k:=k) (by omega)
  unfold lK
  simp only []
  rw [hll,aO,dT (by omega),jm,iV (by omega),bS,kN (by omega)]
  simp only [lC]
  cases hon:l[k]!.on with
  | false=>rw [iP,if_neg (by simp),Int.add_zero]
  | true =>
   have hs:=hl.on k hk hon
   have hm0:=hs.m0
   have hm1:l[k]!.mode<(w.Items[k]!.Modes.length:Int):=hs.m1
   obtain ⟨m,hm⟩:∃ m:Nat,l[k]!.mode=(m:Int):=⟨l[k]!.mode.toNat,by omega⟩
   have hwb:=Vb hN hw ok h8 hk hm0 hm1
   rw [hm] at hwb
   rw [jm,if_pos rfl,hm,Rz hN hw ok h8 hk (by omega),bS,BU (by omega) (by omega),Int.add_assoc]) (by
  unfold lK
  simp only []
  rw [hll,aO,dF (by omega),iP];rfl) (by omega)
 have e0:Dj w (wS w l)+lC (fun i=>if l[i]!.on=true then JB w i l[i]!.mode else 0) 0=Dj w (wS w l):=by simp [lC]
 simp only [e0] at this
 have this:bM (lK N w l) N (Dj w (wS w l),0)=_:=this
 rw [this];rfl
theorem Np {l:List ah} (hl:(dU w).Wf l) {c:Bool}:0≤Iw w c l∧Iw w c l≤1400000000000:=by
 have hdb:=YJ hN hw ok h8 hl (Nat.le_refl _)
 have hdb:0≤wS w l∧wS w l≤460:=hdb
 have hrb:=Vd hN hw ok h8 hdb.1 hdb.2
 have hsb:=Ve hN hw ok h8 hl (Nat.le_refl _)
 unfold Iw
 cases c with
 | false=>rw [iP];omega
 | true=>rw [jm];unfold DR;omega
theorem any_eq {l:List ah} (hl:(dU w).Wf l) {c:Bool}:vJ N (Oz c) w l=some (Iw w c l):=by
 unfold vJ Oz Iw
 cases c with
 | false =>
  rw [iP,iP]
  unfold Wp
  rw [dT rfl,jm,TW hN hw ok h8 hl];rfl
 | true =>
  rw [jm,jm]
  unfold Ir
  rw [dF (by simp),iP,dT rfl,jm,U3 hN hw ok h8 hl];rfl
theorem RD {g:ay} {sn:List (Str×Bool)} {F:List Int} {l:List ah} {c:Bool} (hl:(dU w).Wf l) (hg:g.of=Oz c) (hr:G5 w c g.rest):lI N g sn (xP w) F l=some ((dU w).floor (Iw w c) (fun i=>g.rest[i]!) l):=by
 have hll:l.length=w.Items.length:=hl.len
 have hmb:=Np hN hw ok h8 hl (c:=c)
 unfold lI
 rw [hg,show vJ N (Oz c) (xP w).w l=some (Iw w c l) from any_eq hN hw ok h8 hl,bS]
 have hb:∀ k,k≤w.Items.length→0≤lC (fun i=>if l[i]!.on=true then 0 else g.rest[i]!) k∧lC (fun i=>if l[i]!.on=true then 0 else g.rest[i]!) k≤k * 60000000000:=fun k hk=>by
  refine ⟨FU fun i hi=>?_,DT fun i hi=>?_⟩
  all_goals
   have:=hr.bd i (by omega)
   split <;> omega
 have:=tu (f:=jA N g l) (n:=w.Items.length) (N:=N) (fun k=>(Iw w c l+lC (fun i=>if l[i]!.on=true then 0 else g.rest[i]!) k,(k:Int))) ((dU w).floor (Iw w c) (fun i=>g.rest[i]!) l) (fun k hk=>by
  have hbk:=hb k (by omega)
  have hrk:=hr.bd k hk
  unfold jA
  simp only []
  rw [hll,aO,dT (by omega),jm,iV (by omega),bS,kN (by omega)]
  simp only [lC]
  cases hon:l[k]!.on with
  | false =>
   rw [Bool.not_false,jm,iV (by rw [hr.len];exact hk),bS,if_neg (by simp),BU (by omega) (by omega),Int.add_assoc]
  | true=>rw [Bool.not_true,iP,if_pos rfl,Int.add_zero]) (by
  unfold jA
  simp only []
  rw [hll,aO,dF (by omega),iP];rfl) (by omega)
 have e0:Iw w c l+lC (fun i=>if l[i]!.on=true then 0 else g.rest[i]!) 0=Iw w c l:=by simp [lC]
 simp only [e0] at this
 have this:bM (jA N g l) N (Iw w c l,0)=_:=this
 rw [this];rfl
theorem ZW {i:Nat} {s t:ah} (hm:s.mode=t.mode) (hd:s.day≤t.day):(dU w).en i s≤(dU w).en i t:=by
 have _:=hN
 have _:=hw
 have _:=ok
 have _:=h8
 unfold Pb.en;rw [hm];omega
theorem YK {L L':List ah} (h1:(dU w).Full L) (h2:(dU w).Full L') (hs:(dU w).Vf L' L) (hd:(dU w).OB L' L):wS w L'≤wS w L:=by
 refine Ja AO fun i hi=>?_
 rw [if_pos (h2 i hi)]
 refine Int.le_trans (ZW hN hw ok h8 (hs i hi) (hd i hi)) ?_
 have:=Ky (f:=fun i=>if L[i]!.on=true then (dU w).en i L[i]! else 0) hi
 rwa [if_pos (h1 i hi)] at this
theorem ZX {l L:List ah} (hs:(dU w).Sub l L):wS w l≤wS w L:=by
 have _:=hN
 have _:=hw
 have _:=ok
 have _:=h8
 refine Ja AO fun i hi=>?_
 have:=Ky (f:=fun i=>if L[i]!.on=true then (dU w).en i L[i]! else 0) hi
 split
 ·rename_i h
  rw [hs i hi h,if_pos h] at this
  exact this
 ·exact AO
theorem ms_ok {c : Bool} {r : List Int} (hr : G5 w c r) : (dU w).Ms (Iw w c) (fun i => r[i]!) where
  mono L L' hL hL' h1 h2 hs hd:=by
    have hdm:=YK hN hw ok h8 h1 h2 hs hd
    unfold Iw
    cases c with
    | false=>exact hdm
    | true =>
      rw [jm,jm]
      unfold DR
      have a1:=OA hN hw ok h8 hdm
      have a2:lC (fun i=>if L'[i]!.on=true then JB w i L'[i]!.mode else 0) w.Items.length=lC (fun i=>if L[i]!.on=true then JB w i L[i]!.mode else 0) w.Items.length:=Di fun i hi=>by
        rw [if_pos (h1 i hi),if_pos (h2 i hi),hs i hi]
      omega
  low l L hl hL h1 hs:=by
    have hdm:=ZX hN hw ok h8 hs
    unfold Iw
    cases c with
    | false =>
      rw [iP,iP]
      have:lC (fun i=>if l[i]!.on=true then 0 else r[i]!) w.Items.length≤0:=by
        have:=DT (f:=fun i=>if l[i]!.on=true then 0 else r[i]!) (b:=0) (n:=w.Items.length) fun i hi=>by
          show (if l[i]!.on=true then 0 else r[i]!)≤0
          split
          · omega
          · have hm1:=(ok.it i hi).2.2.m1
            have:=hr.low i hi 0 (by omega) (by omega)
            exact this
        omega
      show wS w l+lC (fun i=>if l[i]!.on=true then 0 else r[i]!) w.Items.length≤wS w L
      omega
    | true =>
      rw [jm,jm]
      unfold DR
      have a1:=OA hN hw ok h8 hdm
      have a2:lC (fun i=>(if l[i]!.on=true then JB w i l[i]!.mode else 0)+(if l[i]!.on=true then 0 else r[i]!)) w.Items.length≤lC (fun i=>if L[i]!.on=true then JB w i L[i]!.mode else 0) w.Items.length:=FV fun i hi=>by
        show (if l[i]!.on=true then JB w i l[i]!.mode else 0)+(if l[i]!.on=true then 0 else r[i]!)≤(if L[i]!.on=true then JB w i L[i]!.mode else 0)
        rw [if_pos (h1 i hi)]
        by_cases h:l[i]!.on=true
        · rw [if_pos h,if_pos h,hs i hi h];omega
        · rw [if_neg h,if_neg h]
          have hsl:=hL.on i hi (h1 i hi)
          have:=hr.low i hi L[i]!.mode hsl.m0 hsl.m1
          rw [jm] at this
          omega
      rw [Nu] at a2
      show _+lC (fun i=>if l[i]!.on=true then 0 else r[i]!) w.Items.length≤_
      omega
theorem Wn:G5 w false (List.replicate w.Items.length 0):=by
 have _:=hN
 have _:=hw
 have _:=ok
 have _:=h8
 have h:∀ i,i<w.Items.length→(List.replicate w.Items.length (0:Int))[i]! = 0:=fun i hi=>by
  rw [uD (by simpa using hi)];simp
 exact ⟨by simp,fun i hi=>by rw [h i hi];omega,fun i hi m _ _=>by rw [h i hi];exact Int.le_refl _⟩
theorem Rt:∃ r,pO N w=some r∧G5 w true r:=by
 have hlim:lim ≥ 1000000:=by decide
 have Ua:mk (0:Int) (w.Items.length:Int) (w.Items.length:Int)=some (List.replicate w.Items.length 0):=by
  unfold mk
  rw [dT (by omega),dT (by omega),dT (by omega)];rfl
 obtain ⟨o,ho,h1,h2⟩:=ni (f:=lY N w) (I:=fun q=>∃ i:Nat,q.2=(i:Int)∧i≤w.Items.length∧q.1.length=w.Items.length∧∀ k,k<i→(0≤q.1[k]! ∧ q.1[k]! ≤ 60000000000)∧∀ m:Int,0≤m→m<w.Items[k]!.Modes.length→q.1[k]! ≤ JB w k m) (μ:=fun q=>w.Items.length - q.2.toNat) (post:=fun r=>r.length=w.Items.length∧∀ k,k<w.Items.length→(0≤r[k]! ∧ r[k]! ≤ 60000000000)∧∀ m:Int,0≤m→m<w.Items[k]!.Modes.length→r[k]! ≤ JB w k m) (by
  rintro ⟨r,si⟩ ⟨i,hi,hil,hr,hk⟩
  simp only at hi hr hk
  subst hi
  by_cases hlt:i<w.Items.length
  ·left
   have hit:=(ok.it i hlt).2.2
   have hm1:=hit.m1;have hm3:=hit.m3
   obtain ⟨o,ho,g1,g2,g3,g4,g5⟩:=ni (f:=lZ N w (r,(i:Int)) w.Items[i]!) (I:=fun q=>∃ m:Nat,q.2=(m:Int)∧m≤w.Items[i]!.Modes.length∧q.1.length=w.Items.length∧(∀ k,k<w.Items.length→k≠i→q.1[k]! = r[k]!)∧0≤q.1[i]! ∧ (m=0∨q.1[i]! ≤ 60000000000)∧∀ m':Int,0≤m'→m'<m→q.1[i]! ≤ JB w i m') (μ:=fun q=>w.Items[i]!.Modes.length - q.2.toNat) (post:=fun o=>o.length=w.Items.length∧(∀ k,k<w.Items.length→k≠i→o[k]! = r[k]!)∧0≤o[i]! ∧ o[i]! ≤ 60000000000∧∀ m':Int,0≤m'→m'<w.Items[i]!.Modes.length→o[i]! ≤ JB w i m') (by
    rintro ⟨q,sm⟩ ⟨m,hm,hml,hq,k1,k2,k3,k4⟩
    simp only at hm hq k1 k2 k3 k4
    subst hm
    by_cases hmt:m<w.Items[i]!.Modes.length
    ·left
     have hwb:=Vb hN hw ok h8 hlt (m:=(m:Int)) (by omega) (by omega)
     have hqi:(q.set i (min q[i]! (JB w i (m:Int))))[i]! = min q[i]! (JB w i (m:Int)):=by rw [Ru (by omega),if_pos rfl]
     refine ⟨(q.set i (min q[i]! (JB w i (m:Int))),((m+1:Nat):Int)),?_,⟨m+1,rfl,by omega,by simpa using hq,fun k hk2 hki=>?_,?_,.inr ?_,fun m' e1 e2=>?_⟩,?_⟩
     ·unfold lZ
      simp only []
      rw [aO,dT (by omega),jm,iV (by omega),bS,Rz hN hw ok h8 hlt hmt,bS,bS,Int.toNat_natCast,kN (by omega)]
     ·show (q.set i (min q[i]! (JB w i (m:Int))))[k]! = _
      rw [Ru (by omega),if_neg (Ne.symm hki)];exact k1 k hk2 hki
     ·show 0≤(q.set i (min q[i]! (JB w i (m:Int))))[i]!
      rw [hqi];omega
     ·show (q.set i (min q[i]! (JB w i (m:Int))))[i]! ≤ _
      rw [hqi];omega
     ·show (q.set i (min q[i]! (JB w i (m:Int))))[i]! ≤ _
      rw [hqi]
      by_cases e:m'=(m:Int)
      ·subst e;omega
      ·have:=k4 m' e1 (by omega);omega
     ·show w.Items[i]!.Modes.length - ((m+1:Nat):Int).toNat<w.Items[i]!.Modes.length - ((m:Nat):Int).toNat
      simp only [Int.toNat_natCast];omega
    ·right
     have:m=w.Items[i]!.Modes.length:=by omega
     subst this
     refine ⟨q,?_,hq,k1,k2,by omega,k4⟩
     unfold lZ
     simp only []
     rw [aO,dF (by omega),iP]) N (r.set i 1152921504606846976,0) ⟨0,rfl,Nat.zero_le _,by simpa using hr,fun k hk2 hki=>by
      show (r.set i 1152921504606846976)[k]! = _
      rw [Ru (by omega),if_neg (Ne.symm hki)],by
      show 0≤(r.set i 1152921504606846976)[i]!
      rw [Ru (by omega),if_pos rfl];omega,.inl rfl,fun m' e1 e2=>by omega⟩ (by simp only [];omega)
   refine ⟨(o,((i+1:Nat):Int)),?_,⟨i+1,rfl,by omega,g1,fun k hki=>?_⟩,?_⟩
   ·unfold lY
    simp only []
    rw [aO,dT (by omega),jm,iV hlt,bS,iV (by omega),bS,Int.toNat_natCast,ho,bS,kN (by omega)]
   ·show (0≤o[k]! ∧ o[k]! ≤ 60000000000)∧∀ m:Int,0≤m→m<w.Items[k]!.Modes.length→o[k]! ≤ JB w k m
    by_cases e:k=i
    ·subst e;exact ⟨⟨g3,g4⟩,g5⟩
    ·rw [g2 k (by omega) e];exact hk k (by omega)
   ·show w.Items.length - ((i+1:Nat):Int).toNat<w.Items.length - ((i:Nat):Int).toNat
    simp only [Int.toNat_natCast];omega
  ·right
   have:i=w.Items.length:=by omega
   subst this
   refine ⟨r,?_,hr,hk⟩
   unfold lY
   simp only []
   rw [aO,dF (by omega),iP]) N (List.replicate w.Items.length 0,0) ⟨0,rfl,Nat.zero_le _,by simp,fun k hk=>absurd hk (Nat.not_lt_zero _)⟩ (by simp only [];omega)
 unfold pO
 rw [Ua,bS,ho]
 exact ⟨o,rfl,h1,fun i hi=>(h2 i hi).1,fun i hi m a b=>(h2 i hi).2 m a b⟩
end
end Go.KB
namespace Go.KB
set_option linter.unusedVariables false
set_option maxRecDepth 100000
theorem YL {c:UInt8} {r r':Str}:∀ {x y:Str},(∀ b ∈ x,b≠c)→(∀ b ∈ y,b≠c)→x ++ c :: r=y ++ c :: r'→x=y∧r=r'
 | [],[],_,_,h=>by simp at h;exact ⟨rfl,h⟩
 | [],b :: y,_,hy,h=>by
  simp at h
  exact absurd h.1.symm (hy b (by simp))
 | a :: x,[],hx,_,h=>by
  simp at h
  exact absurd h.1 (hx a (by simp))
 | a :: x,b :: y,hx,hy,h=>by
  simp at h
  obtain ⟨h1,h2⟩:=YL (x:=x) (y:=y) (fun b hb=>hx b (List.mem_cons_of_mem _ hb)) (fun b hb=>hy b (List.mem_cons_of_mem _ hb)) h.2
  exact ⟨by rw [h.1,h1],h2⟩
def Iy (s:ah):Str:=if s.on=true then Lib.itoa s.mode ++ 58 :: Lib.itoa s.day else []
def zI:List ah→Str
 | []=>[]
 | s :: l=>Iy s ++ 32 :: zI l
theorem YM (l m:List ah):zI (l ++ m)=zI l ++ zI m:=by
 induction l with
 | nil=>rfl
 | cons s l ih=>simp only [List.cons_append,zI,ih,List.append_assoc]
theorem JC {n:Int} {c:UInt8} (h:c=58∨c=32):∀ b ∈ Lib.itoa n,b≠c:=by
 intro b hb e
 subst e
 rcases Wx b hb with h1 | ⟨h1,h2⟩ <;> rcases h with rfl | rfl <;> first | (revert h1;decide) | (revert h2;decide)
theorem RF {s:ah}:∀ b ∈ Iy s,b≠32:=by
 unfold Iy
 split
 ·intro b hb
  rcases List.mem_append.1 hb with hb | hb
  ·exact JC (.inr rfl) b hb
  ·rcases List.mem_cons.1 hb with rfl | hb
   ·decide
   ·exact JC (.inr rfl) b hb
 ·intro b hb;cases hb
theorem RG {n m:Int} (hn:0≤n∧n≤400) (hm:0≤m∧m≤400) (h:Lib.itoa n=Lib.itoa m):n=m:=by
 have h1:=OC (n:=n) (by omega)
 rw [h,OC (by omega)] at h1
 simpa using h1.symm
def SlK (s:ah):Prop:=(s.on=true→(0≤s.mode∧s.mode≤400)∧0≤s.day∧s.day≤400)∧(s.on=false→s=S0)
theorem Wy {s t:ah} (hs:SlK s) (ht:SlK t) (h:Iy s=Iy t):s=t:=by
 unfold Iy at h
 cases h1:s.on with
 | false =>
  cases h2:t.on with
  | false=>rw [hs.2 h1,ht.2 h2]
  | true=>rw [h1,h2,if_neg (by simp),if_pos rfl] at h;simp at h
 | true =>
  cases h2:t.on with
  | false=>rw [h1,h2,if_pos rfl,if_neg (by simp)] at h;simp at h
  | true =>
   rw [h1,h2,if_pos rfl,if_pos rfl] at h
   obtain ⟨e1,e2⟩:=YL (JC (.inl rfl)) (JC (.inl rfl)) h
   have e1:=RG (hs.1 h1).1 (ht.1 h2).1 e1
   have e2:=RG (hs.1 h1).2 (ht.1 h2).2 e2
   rw [Df rfl h1,Df rfl h2,e1,e2]
theorem RH:∀ {l m:List ah},l.length=m.length→(∀ s ∈ l,SlK s)→(∀ s ∈ m,SlK s)→zI l=zI m→l=m
 | [],[],_,_,_,_=>rfl
 | [],_ :: _,h,_,_,_=>by simp at h
 | _ :: _,[],h,_,_,_=>by simp at h
 | s :: l,t :: m,h,hl,hm,hk=>by
  obtain ⟨h1,h2⟩:=YL RF RF hk
  rw [Wy (hl s (by simp)) (hm t (by simp)) h1,RH (by simpa using h) (fun x hx=>hl x (List.mem_cons_of_mem _ hx)) (fun x hx=>hm x (List.mem_cons_of_mem _ hx)) h2]
theorem JD {a b:Str} (h:a.length+b.length≤lim):OT a b=some (a ++ b):=by
 unfold OT;rw [Nat.ble_eq_true_of_le h];rfl
theorem OD {s:ah} (h:SlK s):(Iy s).length≤30:=by
 unfold Iy
 split
 ·rename_i hon
  have:=h.1 hon
  have h1:=RI (n:=s.mode) (by omega)
  have h2:=RI (n:=s.day) (by omega)
  simp only [List.length_append,List.length_cons];omega
 ·simp
theorem RJ:∀ {l:List ah},(∀ s ∈ l,SlK s)→(zI l).length≤31 * l.length
 | [],_=>by simp [zI]
 | s :: l,h=>by
  have h1:=OD (h s (by simp))
  have h2:=RJ (l:=l) fun x hx=>h x (List.mem_cons_of_mem _ hx)
  simp only [zI,List.length_append,List.length_cons];omega
theorem Vg {n:Int} (h0:0≤n) (h1:n≤400) {N:Nat}:yD N n=some (Lib.itoa n):=by
 unfold yD UO
 have:inI n=true:=by unfold inI;rw [Bool.and_eq_true,decide_eq_true_eq,decide_eq_true_eq];omega
 rw [this];rfl
section
variable {N:Nat} {w:GWork} (hN:2 ^ 64≤N) (hw:NH w) (ok:TT w) (h8:w.Items.length≤8)
include hN hw ok h8
theorem Ul {l:List ah} (hl:(dU w).Wf l):∀ s ∈ l,SlK s:=by
 have _:=hN
 have _:=hw
 have _:=h8
 intro s hs
 obtain ⟨i,hi,rfl⟩:=List.getElem_of_mem hs
 have hll:l.length=w.Items.length:=hl.len
 rw [← uD hi]
 refine ⟨fun hon=>?_,hl.off i (by show i<w.Items.length;omega)⟩
 have h:=hl.on i (by show i<w.Items.length;omega) hon
 have h1:l[i]!.mode<(w.Items[i]!.Modes.length:Int):=h.m1
 have hm:=(ok.it i (by omega)).2.2.m3
 exact ⟨⟨h.m0,by omega⟩,h.d0,h.d1⟩
theorem key_eq {g:ay} {sn:List (Str×Bool)} {F:List Int} {l:List ah} (hl:(dU w).Wf l):nC N g sn (xP w) F l=some (zI l):=by
 have hll:l.length=w.Items.length:=hl.len
 have hlim:lim ≥ 1000000:=by decide
 have hsl:=Ul hN hw ok h8 hl
 unfold nC
 have:=tu (f:=jP N l) (n:=w.Items.length) (N:=N) (fun k=>(zI (l.take k),(k:Int))) (zI l) (fun k hk=>by
  have hkl:k<l.length:=by omega
  have h1:=hsl _ (List.getElem_mem hkl)
  have hlen:=RJ (l:=l.take k) fun s hs=>hsl s (List.mem_of_mem_take hs)
  rw [List.length_take] at hlen
  have hwl:=OD h1
  have e:zI (l.take (k+1))=zI (l.take k) ++ (Iy l[k] ++ [32]):=by
   rw [List.take_succ_eq_append_getElem hkl,YM];rfl
  rw [e]
  unfold jP
  simp only []
  rw [hll,aO,dT (by omega),jm,jX hkl,bS,kN (by omega)]
  unfold Iy at hwl ⊢
  cases hon:l[k].on with
  | false =>
   rw [hon,if_neg (by simp)] at hwl
   rw [iP,if_neg (by simp),JD (by simp;omega)];rfl
  | true =>
   obtain ⟨⟨a1,a2⟩,a3,a4⟩:=h1.1 hon
   rw [hon,if_pos rfl] at hwl
   simp only [List.length_append,List.length_cons] at hwl
   rw [jm,if_pos rfl,Vg a1 a2,bS,JD (by simp;omega),bS,Vg a3 a4,bS,JD (by simp;omega),bS,JD (by simp;omega),bS,JD (by simp;omega),bS]
   simp only [List.append_assoc,List.cons_append,List.nil_append]) (by
  unfold jP
  simp only []
  rw [hll,aO,dF (by omega),iP,List.take_of_length_le (by omega)]) (by omega)
 have this:bM (jP N l) N (([]:Str),0)=_:=this
 rw [this];rfl
theorem key_inj {l m:List ah} (hl:(dU w).Wf l) (hm:(dU w).Wf m) (h:zI l=zI m):l=m :=
 RH (by rw [hl.len,hm.len]) (Ul hN hw ok h8 hl) (Ul hN hw ok h8 hm) h
theorem PV {i:Nat} (hi:i<w.Items.length):∀ k ∈ pJ w i,∃ j:Nat,k=(j:Int)∧j<w.Items.length:=by
 have _:=hN
 have _:=hw
 have _:=h8
 intro k hk
 unfold pJ at hk
 obtain ⟨s,hs,rfl⟩:=List.mem_map.1 hk
 obtain ⟨j,hj,rfl⟩:=List.getElem_of_mem hs
 have h1:=((ok.it i hi).2.2.af j hj).1
 rw [uD hj] at h1
 obtain ⟨k,h2,h3,_⟩:=GY h1
 rw [zW] at h2
 exact ⟨k,h3,h2⟩
theorem ZY {g:ay} {sn:List (Str×Bool)} {F:List Int} {l:List ah} (hl:(dU w).Wf l) {i:Nat} (hi:i<w.Items.length):∃ b,qg N g sn (xP w) F l (i:Int)=some b∧(b=true↔(dU w).opn l i):=by
 have hll:l.length=w.Items.length:=hl.len
 have hal:=hw.a i hi
 have g2:idx (xP w).prior (i:Int)=some (pJ w i):=by
  rw [jX (by show i<((List.range w.Items.length).map (pJ w)).length;simpa using hi)]
  simp [xP]
 have hbl:(pJ w i).length≤12:=by unfold pJ;rw [List.length_map];exact hal
 have hcf:gZ N g sn (xP w) F l (pJ w i)=some ((pJ w i).any fun k=>!l[k.toNat]!.on):=by
  unfold gZ jK
  have h:((bM (fA N g sn (xP w) F l (pJ w i)) N 0).bind fun o5=>Sum.elim (fun l7=>some (-1:Int)) (fun r8=>some r8) o5)=some (DU (fun k=>!l[k.toNat]!.on) (pJ w i)):=by
   refine tC (fun j hj=>?_) ?_ (by omega)
   ·obtain ⟨k,e1,e2⟩:=PV hN hw ok h8 hi _ (List.getElem_mem hj)
    unfold fA qO
    rw [aO,dT (by omega),jm,jX hj,bS,e1,iV (by omega),bS,bS,kN (by omega),Int.toNat_natCast]
   ·unfold fA
    rw [aO,dF (by omega),iP]
  rw [h,bS,Nv]
 unfold qg
 rw [iV (by omega),bS]
 cases hon:l[i]!.on with
 | true=>exact ⟨false,rfl,fun x=>(by cases x),fun x=>by have:=x.1;rw [hon] at this;cases this⟩
 | false =>
  rw [Bool.not_false,jm,g2,bS,jm,hcf,bS]
  refine ⟨_,rfl,fun h=>⟨hon,fun k hk hp=>?_⟩,fun h=>?_⟩
  ·rw [Bool.true_and,Bool.not_eq_true',List.any_eq_false] at h
   have:=h (k:Int) (List.contains_iff_mem.1 hp)
   simpa using this
  ·rw [Bool.true_and,Bool.not_eq_true',List.any_eq_false]
   intro k hk
   obtain ⟨j,rfl,e2⟩:=PV hN hw ok h8 hi k hk
   have:=h.2 j e2 (List.contains_iff_mem.2 hk)
   rw [Int.toNat_natCast,this];simp
end
end Go.KB
namespace Go.KB
set_option linter.unusedVariables false
set_option maxRecDepth 100000
abbrev D9 (F:List Int):Nat→Int:=fun j=>F[j]!
def Hf (w:GWork) (c:Bool) (F:List Int) (l:List ah) (b:Int):Prop:=(dU w).Done (D9 F) (Iw w c) l b
def Qa (w:GWork) (c:Bool) (F:List Int) (sn:List (Str×Bool)) (b:Int) (k:Nat):Prop:=∀ l0,(dU w).Wf l0→(dU w).Valid (D9 F) l0→uG false sn (zI l0)=true→yO l0≤k→Hf w c F l0 b
structure RN (w:GWork) (c:Bool) (F:List Int) (l:List ah) (g g1:ay):Prop where
 of:g1.of=g.of
 rest:g1.rest=g.rest
 le:g1.best≤g.best
 pr:(g1.best=g.best∧g1.some=g.some)∨(g1.best<g.best∧g1.some=true∧∃ L,(dU w).A8 (D9 F) l L∧Iw w c L=g1.best)
theorem RN.refl {w:GWork} {c:Bool} {F:List Int} {l:List ah} {g:ay}:RN w c F l g g:=⟨rfl,rfl,Int.le_refl _,.inl ⟨rfl,rfl⟩⟩
theorem RN.trans {w:GWork} {c:Bool} {F:List Int} {l l':List ah} {g g1 g2:ay} (h1:RN w c F l g g1) (h2:RN w c F l' g1 g2) (hs:∀ L,(dU w).A8 (D9 F) l' L→(dU w).A8 (D9 F) l L):RN w c F l g g2:=by
 refine ⟨h2.of.trans h1.of,h2.rest.trans h1.rest,Int.le_trans h2.le h1.le,?_⟩
 have hl1:=h1.le
 rcases h2.pr with ⟨a,b⟩ | ⟨a,b,L,hL,hm⟩
 ·rcases h1.pr with ⟨a',b'⟩ | ⟨a',b',L,hL,hm⟩
  ·exact .inl ⟨a.trans a',b.trans b'⟩
  ·exact .inr ⟨by omega,b.trans b',L,hL,by omega⟩
 ·exact .inr ⟨by omega,b,L,hs L hL,hm⟩
structure DPost (w:GWork) (c:Bool) (F:List Int) (l:List ah) (g:ay) (sn:List (Str×Bool)) (g1:ay) (Lc:List (Str×Bool)):Prop where
 com:RN w c F l g g1
 done:Hf w c F l g1.best
 sn:∀ l0,(dU w).Wf l0→(dU w).Valid (D9 F) l0→uG false Lc (zI l0)=true→uG false sn (zI l0)=true∨(yO l0≤yO l∧Hf w c F l0 g1.best)
structure Um (w:GWork) (c:Bool) (F:List Int) (l:List ah) (g:ay) (sn:List (Str×Bool)) (g1:ay) (Lc:List (Str×Bool)):Prop where
 com:RN w c F l g g1
 sn:∀ l0,(dU w).Wf l0→(dU w).Valid (D9 F) l0→uG false Lc (zI l0)=true→(uG false sn (zI l0)=true∨l0=l)∨(yO l0<yO l∧Hf w c F l0 g1.best)
theorem Pb.Reach.sub {P:Pb} {F:Nat→Int} {l L:List ah} (h:P.Reach F l L):l.length=P.n→P.Sub l L:=by
 induction h with
 | refl l=>intro _ i _ _;rfl
 | step hi ho h0 h1 he h ih =>
  intro hl k hk hon
  have:=ih (by rw [List.length_set];exact hl) k hk
  rw [setB (by omega)] at this
  rw [if_neg] at this
  ·exact this hon
  ·intro e;subst e;rw [ho.1] at hon;cases hon
section
variable {N:Nat} {w:GWork} (hN:2 ^ 64≤N) (hw:NH w) (ok:TT w) (h8:w.Items.length≤8)
variable {F:List Int} (hF:F.length=w.Items.length) (La:∀ i,i<w.Items.length→0≤F[i]! ∧ F[i]! ≤ 400) {c:Bool} {r:List Int} (hr:G5 w c r)
def YN (w:GWork) (c:Bool) (F r:List Int) (rc:ay→(List (Str×Bool))→aB→(List Int)→(List ah)→Option (ay×(List (Str×Bool))×(List ah))) (k:Nat):Prop :=
 ∀ g sn l,yO l=k→g.of=Oz c→g.rest=r→(dU w).Wf l→(dU w).Valid (D9 F) l→Qa w c F sn g.best k→∃ g1 Lc,rc g sn (xP w) F l=some (g1,Lc,l)∧DPost w c F l g sn g1 Lc
include hN hw ok h8 hF La hr
theorem ear_ok {l:List ah} (hl:(dU w).Wf l) {i m:Nat} (hi:i<w.Items.length) (hm:m<w.Items[i]!.Modes.length) {s:ah} (he:(dU w).Uk (D9 F) l i (m:Int) s):(dU w).EP i s:=by
 have _:=hN
 have _:=hw
 have _:=hF
 have _:=hr
 have hlast:=ok.last
 have hF1:=La i hi
 have h1:F[i]! ≤ s.day:=he.fits.solo.1
 have h2:(dU w).en i s≤w.Last:=he.fits.solo.2.1
 have hd:=((BA ok h8).Rw i hi s.mode (by rw [he.mode];omega) (by rw [he.mode];show (m:Int)<(w.Items[i]!.Modes.length:Int);omega)).1
 unfold Pb.en at h2
 exact ⟨by rw [he.mode];omega,by rw [he.mode];show (m:Int)<(w.Items[i]!.Modes.length:Int);omega,by omega,by omega⟩
theorem WA {rc:ay→(List (Str×Bool))→aB→(List Int)→(List ah)→Option (ay×(List (Str×Bool))×(List ah))} {l:List ah} (hl:(dU w).Wf l) (hv:(dU w).Valid (D9 F) l) {i:Nat} (hi:i<w.Items.length) (ho:(dU w).opn l i) (hrc:YN w c F r rc (yO l - 1)) {g:ay} {sn:List (Str×Bool)} (hgo:g.of=Oz c) (hgr:g.rest=r) (hsn:Qa w c F sn g.best (yO l)) {g1:ay} {Lc:List (Str×Bool)} (hI:Um w c F l g sn g1 Lc) :
  ∃ g2 sn2,jq N rc g1 Lc (xP w) F l (i:Int)=some (g2,sn2,l)∧Um w c F l g sn g2 sn2∧g2.best≤g1.best∧∀ m:Int,0≤m→m<w.Items[i]!.Modes.length→∀ s,(dU w).Uk (D9 F) l i m s→Hf w c F (l.set i s) g2.best:=by
 have hpb:=BA ok h8
 have hll:l.length=w.Items.length:=hl.len
 have hmm:=hw.m i hi
 have hoff:=ho.1
 have hS0:l[i]! = S0:=hl.off i hi hoff
 have hoffs:∀ s:ah,s.on=true→yO (l.set i s)+1=yO l:=fun s hs=>Jz (by omega) hoff hs
 unfold jq
 rw [show idx (xP w).w.Items (i:Int)=some w.Items[i]! from iV hi,bS]
 obtain ⟨o,e,g2,sn2,rfl,h1,h2,h3⟩:=ni (f:=gU N rc (xP w) F (i:Int) w.Items[i]!) (I:=fun q=>∃ m:Nat,q.1=(m:Int)∧m≤w.Items[i]!.Modes.length∧q.2.2.2=l∧Um w c F l g sn q.2.1 q.2.2.1∧q.2.1.best≤g1.best∧∀ m':Int,0≤m'→m'<m→∀ s,(dU w).Uk (D9 F) l i m' s→Hf w c F (l.set i s) q.2.1.best) (μ:=fun q=>w.Items[i]!.Modes.length - q.1.toNat) (post:=fun o=>∃ g2 sn2,o=(g2,sn2,l)∧Um w c F l g sn g2 sn2∧g2.best≤g1.best∧∀ m':Int,0≤m'→m'<w.Items[i]!.Modes.length→∀ s,(dU w).Uk (D9 F) l i m' s→Hf w c F (l.set i s) g2.best) (by
  rintro ⟨sm,ga,WS,la⟩ ⟨m,hm,hml,hla,Vh,hba,hda⟩
  simp only at hm hla Vh hba hda
  subst hm
  subst hla
  by_cases hlt:m<w.Items[i]!.Modes.length
  ·left
   obtain ⟨q,e1,e2⟩:=Ry hN hw ok h8 hF La hl hi hlt
   have Hg:gU N rc (xP w) F (i:Int) w.Items[i]! ((m:Int),ga,WS,la)=bif q.2 then ((rc ga WS (xP w) F (la.set i q.1)).bind fun v5=>(idx v5.2.2 (i:Int)).bind fun v6=>some (.inl (((m+1:Nat):Int),v5.1,v5.2.1,(List.set v5.2.2 i (⟨0,0,false⟩:ah))))) else some (.inl (((m+1:Nat):Int),ga,WS,la)):=by
    unfold gU
    simp only []
    rw [aO,dT (by omega),jm,e1,bS,iV (by omega),bS,kN (by omega),Int.toNat_natCast]
   have hdec:w.Items[i]!.Modes.length - ((m+1:Nat):Int).toNat<w.Items[i]!.Modes.length - ((m:Nat):Int).toNat:=by simp only [Int.toNat_natCast];omega
   rcases e2 with ⟨hq,hear⟩ | ⟨hq,hno⟩
   ·rw [hq,jm] at Hg
    have Qb:=hear.on
    have WB:=ear_ok hN hw ok h8 hF La hr hl hi hlt hear
    have hl2:(dU w).Wf (la.set i q.1):=hl.set hi (fun _=>WB) (fun x=>by rw [Qb] at x;cases x)
    have hv2:(dU w).Valid (D9 F) (la.set i q.1):=hv.set hpb hl hi hoff hear.fits
    have ho2:=hoffs q.1 Qb
    have hseen2:Qa w c F WS ga.best (yO la - 1):=by
     intro l0 w0 v0 m0 k0
     rcases Vh.sn l0 w0 v0 m0 with (h | h) | ⟨h,h'⟩
     ·exact (hsn l0 w0 v0 h (by omega)).le Vh.com.le
     ·subst h;omega
     ·exact h'
    obtain ⟨gb,snb,hrun,hpost⟩:=hrc ga WS (la.set i q.1) (by omega) (Vh.com.of.trans hgo) (Vh.com.rest.trans hgr) hl2 hv2 hseen2
    rw [hrun,bS] at Hg
    simp only [] at Hg
    rw [iV (by rw [List.length_set];omega),bS,List.set_set] at Hg
    have hback:la.set i (⟨0,0,false⟩:ah)=la:=by
     have:=set_self (l:=la) (j:=i) (by omega)
     rwa [hS0] at this
    rw [hback] at Hg
    have hcomp:∀ L,(dU w).A8 (D9 F) (la.set i q.1) L→(dU w).A8 (D9 F) la L:=fun L hc=>⟨hc.wf,hc.full,hc.valid,fun k hk hon=>by
     have hki:i≠k:=fun e=>by subst e;rw [hoff] at hon;cases hon
     have:=hc.sub k hk
     have hk:k<w.Items.length:=hk
     rw [setB (by omega),if_neg hki] at this
     exact this hon⟩
    have hle:=hpost.com.le
    refine ⟨_,Hg,⟨m+1,rfl,by omega,rfl,⟨Vh.com.trans hpost.com hcomp,fun l0 w0 v0 m0=>?_⟩,by simp only [];omega,fun m' a1 a2 s hs=>?_⟩,hdec⟩
    ·rcases hpost.sn l0 w0 v0 m0 with h | ⟨h,h'⟩
     ·rcases Vh.sn l0 w0 v0 h with h | ⟨h,h'⟩
      ·exact .inl h
      ·exact .inr ⟨h,h'.le hle⟩
     ·exact .inr ⟨by omega,h'⟩
    ·by_cases em : m' = (m : Int)
     ·subst em
      rw [hs.inj hear];exact hpost.done
     ·exact (hda m' a1 (by omega) s hs).le hle
   ·rw [hq,iP] at Hg
    refine ⟨_,Hg,⟨m+1,rfl,by omega,rfl,Vh,hba,fun m' a1 a2 s hs=>?_⟩,hdec⟩
    by_cases em:m'=(m:Int)
    ·subst em;exact absurd hs (hno s)
    ·exact hda m' a1 (by omega) s hs
  ·right
   have:m=w.Items[i]!.Modes.length:=by omega
   subst this
   refine ⟨_,?_,ga,WS,rfl,Vh,hba,hda⟩
   unfold gU
   simp only []
   rw [aO,dF (by omega),iP]) N (0,g1,Lc,l) ⟨0,rfl,Nat.zero_le _,rfl,hI,Int.le_refl _,fun m' a1 a2=>by omega⟩ (by simp only [];omega)
 rw [e,bS]
 exact ⟨g2,sn2,rfl,h1,h2,h3⟩
theorem Vj {rc:ay→(List (Str×Bool))→aB→(List Int)→(List ah)→Option (ay×(List (Str×Bool))×(List ah))} {l:List ah} (hl:(dU w).Wf l) (hv:(dU w).Valid (D9 F) l) (hrc:yO l≠0→YN w c F r rc (yO l - 1)) {g:ay} {sn:List (Str×Bool)} (hgo:g.of=Oz c) (hgr:g.rest=r) (hsn:Qa w c F sn g.best (yO l)) :
  ∃ g1 Lc,lF N rc g sn (xP w) F l=some (g1,Lc,l)∧DPost w c F l g sn g1 Lc:=by
 have hpb:=BA ok h8
 have hll:l.length=w.Items.length:=hl.len
 have hms:=ms_ok hN hw ok h8 hr
 have hfl:=RD hN hw ok h8 (g:=g) (sn:=sn) (F:=F) hl hgo (by rw [hgr];exact hr)
 rw [hgr] at hfl
 unfold lF
 rw [hfl,bS,key_eq hN hw ok h8 hl,vX]
 by_cases hge:g.best≤(dU w).floor (Iw w c) (fun i=>r[i]!) l
 ·rw [dT hge,Bool.not_true,iP,bS,Bool.true_or,jm]
  exact ⟨g,sn,rfl,.refl,fun L hc _=>Int.le_trans hge (hms.low l L hl hc.wf hc.full hc.sub),fun l0 _ _ h=>.inl h⟩
 ·rw [dF hge,Bool.not_false,jm,bS,Bool.false_or]
  cases hk:uG false sn (zI l) with
  | true =>
   rw [jm]
   exact ⟨g,sn,rfl,.refl,hsn l hl hv hk (Nat.le_refl _),fun l0 _ _ h=>.inl h⟩
  | false =>
   rw [iP,bS]
   have hI0:Um w c F l g sn g (xB sn (zI l) true):=⟨.refl,fun l0 w0 v0 m0=>by
    rw [Ku] at m0
    by_cases e:zI l0=zI l
    ·exact .inl (.inr (key_inj hN hw ok h8 w0 hl e))
    ·rw [if_neg e] at m0;exact .inl (.inl m0)⟩
   obtain ⟨o,e,wh,g1,Lc,rfl,hwh,hI1,hd1,hfull⟩:=ni (f:=jh N rc (xP w) F l) (I:=fun q=>∃ i:Nat,q.2.1=(i:Int)∧i≤w.Items.length∧q.2.2.2.2=l∧(q.1=true↔∀ j,j<i→l[j]!.on=true)∧Um w c F l g sn q.2.2.1 q.2.2.2.1∧(∀ j,j<i→(dU w).opn l j→∀ m:Int,0≤m→m<w.Items[j]!.Modes.length→∀ s,(dU w).Uk (D9 F) l j m s→Hf w c F (l.set j s) q.2.2.1.best)∧((dU w).Full l→q.2.2.1=g∧q.2.2.2.1=xB sn (zI l) true)) (μ:=fun q=>w.Items.length - q.2.1.toNat) (post:=fun o=>∃ wh g1 Lc,o=(wh,g1,Lc,l)∧(wh=true↔(dU w).Full l)∧Um w c F l g sn g1 Lc∧(∀ j,j<w.Items.length→(dU w).opn l j→∀ m:Int,0≤m→m<w.Items[j]!.Modes.length→∀ s,(dU w).Uk (D9 F) l j m s→Hf w c F (l.set j s) g1.best)∧((dU w).Full l→g1=g∧Lc=xB sn (zI l) true)) (by
    rintro ⟨wh,si,ga,WS,la⟩ ⟨i,hi,hil,hla,hwh,Vh,hda,hfa⟩
    simp only at hi hla hwh Vh hda hfa
    subst hi
    subst hla
    by_cases hlt:i<w.Items.length
    ·left
     obtain ⟨b,e1,e2⟩:=ZY hN hw ok h8 (g:=ga) (sn:=WS) (F:=F) hl hlt
     have hdec:w.Items.length - ((i+1:Nat):Int).toNat<w.Items.length - ((i:Nat):Int).toNat:=by simp only [Int.toNat_natCast];omega
     have hstep:jh N rc (xP w) F la (wh,(i:Int),ga,WS,la)=bif b then ((jq N rc ga WS (xP w) F la (i:Int)).bind fun v7=>some (.inl ((wh&&la[i]!.on),((i+1:Nat):Int),v7.1,v7.2.1,v7.2.2))) else some (.inl ((wh&&la[i]!.on),((i+1:Nat):Int),ga,WS,la)):=by
      unfold jh
      simp only []
      rw [hll,aO,dT (by omega),jm,iV (by omega),kN (by omega)]
      cases wh with
      | true=>rw [jm,bS,e1,bS]
      | false=>rw [iP,bS,e1,bS,Bool.false_and,Bool.false_and]
     have hwh2:(wh&&la[i]!.on)=true↔∀ j,j<i+1→la[j]!.on=true:=by
      rw [Bool.and_eq_true,hwh]
      constructor
      ·rintro ⟨a,a'⟩ j hj
       by_cases ej:j=i
       ·rw [ej];exact a'
       ·exact a j (by omega)
      ·intro a;exact ⟨fun j hj=>a j (by omega),a i (by omega)⟩
     cases b with
     | true =>
      have YO:=e2.1 rfl
      have hne:yO la≠0:=fun h=>by
       have:=Kz h i (by omega)
       rw [YO.1] at this;cases this
      obtain ⟨gb,snb,hrun,hIb,hbb,hdb⟩:=WA hN hw ok h8 hF La hr hl hv hlt YO (hrc hne) hgo hgr hsn Vh
      rw [jm,hrun,bS] at hstep
      refine ⟨_,hstep,⟨i+1,rfl,by omega,rfl,hwh2,hIb,fun j hj hoj m a1 a2 s hs=>?_,fun hf=>?_⟩,hdec⟩
      ·by_cases ej : j = i
       ·subst ej;exact hdb m a1 a2 s hs
       ·exact (hda j (by omega) hoj m a1 a2 s hs).le hbb
      ·have:=hf i hlt
       rw [YO.1] at this;cases this
     | false =>
      rw [iP] at hstep
      refine ⟨_,hstep,⟨i+1,rfl,by omega,rfl,hwh2,Vh,fun j hj hoj m a1 a2 s hs=>?_,hfa⟩,hdec⟩
      by_cases ej:j=i
      ·subst ej;have:=e2.2 hoj;cases this
      ·exact hda j (by omega) hoj m a1 a2 s hs
    ·right
     have:i=w.Items.length:=by omega
     subst this
     refine ⟨_,?_,wh,ga,WS,rfl,hwh,Vh,hda,hfa⟩
     unfold jh
     simp only []
     rw [hll,aO,dF (by omega),iP]) N (true,0,g,xB sn (zI l) true,l) ⟨0,rfl,Nat.zero_le _,rfl,⟨fun _ j hj=>absurd hj (Nat.not_lt_zero _),fun _=>rfl⟩,hI0,fun j hj=>absurd hj (Nat.not_lt_zero _),fun _=>⟨rfl,rfl⟩⟩ (by simp only [];omega)
   rw [e,bS]
   simp only []
   cases wh with
   | true =>
    have hf:=hwh.1 rfl
    obtain ⟨rfl,rfl⟩:=hfull hf
    have hfl2:=RD hN hw ok h8 (g:=g1) (sn:=xB sn (zI l) true) (F:=F) hl hgo (by rw [hgr];exact hr)
    rw [hgr,Pb.Nw hf] at hfl2
    rw [Pb.Nw hf] at hge
    rw [jm,hfl2,bS]
    have hcl:(dU w).A8 (D9 F) l l:=⟨hl,hf,hv,fun _ _ _=>rfl⟩
    have hsame:∀ L,(dU w).A8 (D9 F) l L→L=l:=fun L hc=>EL (by rw [hc.wf.len,hl.len]) fun k hk=>hc.sub k (by rw [hc.wf.len] at hk;exact hk) (hf k (by rw [hc.wf.len] at hk;exact hk))
    have hdone:Hf w c F l (Iw w c l):=fun L hc _=>by rw [hsame L hc];exact Int.le_refl _
    refine ⟨_,_,rfl,⟨rfl,rfl,by show Iw w c l≤g1.best;omega,.inr ⟨by show Iw w c l<g1.best;omega,rfl,l,hcl,rfl⟩⟩,hdone,fun l0 w0 v0 m0=>?_⟩
    rcases hI0.sn l0 w0 v0 m0 with (h | h) | ⟨h,h'⟩
    ·exact .inl h
    ·subst h;exact .inr ⟨Nat.le_refl _,hdone⟩
    ·exact .inr ⟨by omega,h'.le (by show Iw w c l≤g1.best;omega)⟩
   | false =>
    rw [iP]
    have hnf:¬ (dU w).Full l:=fun h=>by have:=hwh.2 h;cases this
    have hdone:Hf w c F l g1.best:=by
     intro L hc hre
     cases hre with
     | refl=>exact absurd hc.full hnf
     | step hi ho h0 h1 he h =>
      exact hd1 _ hi ho _ h0 h1 _ he L ⟨hc.wf,hc.full,hc.valid,h.sub (by rw [List.length_set];exact hl.len)⟩ h
    refine ⟨g1,Lc,rfl,hI1.com,hdone,fun l0 w0 v0 m0=>?_⟩
    rcases hI1.sn l0 w0 v0 m0 with (h | h) | ⟨h,h'⟩
    ·exact .inl h
    ·subst h;exact .inr ⟨Nat.le_refl _,hdone⟩
    ·exact .inr ⟨by omega,h'⟩
omit hN
theorem Un:∀ (k N:Nat),2 ^ 64+k+1≤N→YN w c F r (iJ N) k:=by
 intro k
 induction k with
 | zero =>
  intro N hN g sn l hk hgo hgr hl hv hsn
  obtain ⟨M,rfl⟩:∃ m,N=m+1:=⟨N - 1,by omega⟩
  exact Vj (N:=M) (by omega) hw ok h8 hF La hr hl hv (fun h=>absurd hk h) hgo hgr (by rw [hk];exact hsn)
 | succ k ih =>
  intro N hN g sn l hk hgo hgr hl hv hsn
  obtain ⟨M,rfl⟩:∃ m,N=m+1:=⟨N - 1,by omega⟩
  exact Vj (N:=M) (by omega) hw ok h8 hF La hr hl hv (fun _=>by rw [hk];exact ih M (by omega)) hgo hgr (by rw [hk];exact hsn)
end
end Go.KB
namespace Go.KB
set_option linter.unusedVariables false
set_option maxRecDepth 100000
def YP (w:GWork) (c:Bool) (F:List Int) (l:List ah) (b:Int) (v:Int×Bool):Prop :=
 (v.2=true∧v.1<b∧(∃ L,(dU w).A8 (D9 F) l L∧Iw w c L=v.1)∧∀ L,(dU w).A8 (D9 F) l L→v.1≤Iw w c L)∨(v.2=false∧∀ L,(dU w).A8 (D9 F) l L→b≤Iw w c L)
section
variable {N:Nat} {w:GWork} (hN:2 ^ 64+9≤N) (hw:NH w) (ok:TT w) (h8:w.Items.length≤8)
variable {F:List Int} (hF:F.length=w.Items.length) (La:∀ i,i<w.Items.length→0≤F[i]! ∧ F[i]! ≤ 400) {c:Bool} {r:List Int} (hr:G5 w c r)
include hN hw ok h8 hF La
theorem OE {f:Int→Option (Int ⊕ (Unit ⊕ (Int×Bool)))} {l:List ah} (hl:(dU w).Wf l) (hf:∀ s:Int,f s=bif (ax .lss s (List.length l:Int)) then ((idx l s).bind fun v6=>(bif v6.on then (jr N (xP w) F l s v6) else some false).bind fun v7=>bif (v6.on&&(!v7)) then (some (.inr (Sum.inr (0,false)))) else (some (.inl (IntKind.i64.wrap (s+1))))) else (some (.inr (Sum.inl ())))):∃ o,bM f N 0=some o∧((o = .inl ()∧(dU w).Valid (D9 F) l)∨(o = .inr (0,false)∧¬ (dU w).Valid (D9 F) l)):=by
 have hN':2 ^ 64≤N:=by omega
 have hll:l.length=w.Items.length:=hl.len
 refine ni (f:=f) (I:=fun s=>∃ i:Nat,s=(i:Int)∧i≤w.Items.length∧∀ j,j<i→l[j]!.on=true→(dU w).Fits (D9 F) l j l[j]!) (μ:=fun s=>w.Items.length - s.toNat) (post:=fun o=>(o = .inl ()∧(dU w).Valid (D9 F) l)∨(o = .inr (0,false)∧¬ (dU w).Valid (D9 F) l)) ?_ N 0 ⟨0,rfl,Nat.zero_le _,fun j hj=>absurd hj (Nat.not_lt_zero _)⟩ (by simp only [Int.toNat_zero];omega)
 rintro s ⟨i,rfl,hi,h⟩
 by_cases hlt:i<w.Items.length
 ·have hst:=hf (i:Int)
  rw [hll,aO,dT (by omega),jm,iV (by omega),bS,kN (by omega)] at hst
  have hdec:w.Items.length - ((i+1:Nat):Int).toNat<w.Items.length - ((i:Nat):Int).toNat:=by simp only [Int.toNat_natCast];omega
  cases hon:l[i]!.on with
  | false =>
   rw [hon,iP,bS,Bool.false_and,iP] at hst
   refine .inl ⟨_,hst,⟨i+1,rfl,by omega,fun j hj hj2=>?_⟩,hdec⟩
   by_cases e:j=i
   ·subst e;rw [hon] at hj2;cases hj2
   ·exact h j (by omega) hj2
  | true =>
   obtain ⟨b,e1,e2⟩:=Va hN' hw ok h8 hF La hl hlt (hl.on i hlt hon) hon
   rw [hon,jm,e1,bS,Bool.true_and] at hst
   cases b with
   | true =>
    rw [Bool.not_true,iP] at hst
    refine .inl ⟨_,hst,⟨i+1,rfl,by omega,fun j hj hj2=>?_⟩,hdec⟩
    by_cases e:j=i
    ·subst e;exact e2.1 rfl
    ·exact h j (by omega) hj2
   | false =>
    rw [Bool.not_false,jm] at hst
    refine .inr ⟨_,hst,.inr ⟨rfl,fun hv=>?_⟩⟩
    have:=e2.2 (hv i hlt hon);cases this
 ·right
  have:i=w.Items.length:=by omega
  subst this
  refine ⟨.inl (),?_,.inl ⟨rfl,h⟩⟩
  rw [hf,hll,aO,dF (by omega),iP]
include hr
theorem RP {l:List ah} (hl:(dU w).Wf l) (hv:(dU w).Valid (D9 F) l) {b:Int}:∃ g1 Lc,iJ N (⟨Oz c,r,b,false⟩:ay) [] (xP w) F l=some (g1,Lc,l)∧YP w c F l b (g1.best,g1.some):=by
 have hN':2 ^ 64≤N:=by omega
 have hpb:=BA ok h8
 have hle:=Z4 l
 have hll:l.length=w.Items.length:=hl.len
 obtain ⟨g1,Lc,h1,h2⟩:=Un hw ok h8 hF La hr (yO l) N (by omega) (⟨Oz c,r,b,false⟩:ay) [] l rfl rfl rfl hl hv (fun l0 _ _ h=>by cases h)
 refine ⟨g1,Lc,h1,?_⟩
 have hall:∀ L,(dU w).A8 (D9 F) l L→g1.best≤Iw w c L:=fun L hc=>by
  by_cases hF00:∀ i,0≤D9 F i
  ·obtain ⟨L',a,b',d⟩:=Pb.YQ hpb hF00 (ms_ok hN' hw ok h8 hr) hl hc
   exact Int.le_trans (h2.done L' a b') d
  ·exfalso
   refine hF00 fun i=>?_
   by_cases hi:i<w.Items.length
   ·exact (La i hi).1
   ·show 0≤F[i]!
    have:F[i]! = 0:=by
     rw [List.getElem!_eq_getElem?_getD,List.getElem?_eq_none (by omega)];rfl
    omega
 rcases h2.com.pr with ⟨e1,e2⟩ | ⟨e1,e2,L,hL,e3⟩
 ·exact .inr ⟨e2,fun L hc=>by have:=hall L hc;have e1:g1.best=b:=e1;omega⟩
 ·exact .inl ⟨e2,e1,⟨L,hL,e3⟩,hall⟩
theorem PX {l:List ah} (hl:(dU w).Wf l) {b:Int}:∃ v,iw N (xP w) F l (Oz c) r b=some v∧YP w c F l b v:=by
 have hpb:=BA ok h8
 unfold iw
 obtain ⟨o,ho,hc⟩:=OE hN hw ok h8 hF La (f:=qo N (xP w) F l) hl (fun s=>rfl)
 rw [ho,bS]
 rcases hc with ⟨rfl,hv⟩ | ⟨rfl,hnv⟩
 ·obtain ⟨g1,Lc,h1,h2⟩:=RP hN hw ok h8 hF La hr hl hv (b:=b)
  rw [Sum.elim_inl,h1]
  exact ⟨_,rfl,h2⟩
 ·exact ⟨_,rfl,.inr ⟨rfl,fun L hc=>absurd (hc.valid.sub hpb hl.len hc.wf hc.sub) hnv⟩⟩
theorem und_eq {l:List ah} (hl:(dU w).Wf l) {b:Int}:∃ v,rF N (xP w) F l (Oz c) r b=some (l,v)∧YP w c F l b v:=by
 have hpb:=BA ok h8
 unfold rF
 obtain ⟨o,ho,hc⟩:=OE hN hw ok h8 hF La (f:=rX N (xP w) F l) hl (fun s=>rfl)
 rw [ho,bS]
 rcases hc with ⟨rfl,hv⟩ | ⟨rfl,hnv⟩
 ·obtain ⟨g1,Lc,h1,h2⟩:=RP hN hw ok h8 hF La hr hl hv (b:=b)
  rw [Sum.elim_inl,h1]
  exact ⟨_,rfl,h2⟩
 ·exact ⟨_,rfl,.inr ⟨rfl,fun L hc=>absurd (hc.valid.sub hpb hl.len hc.wf hc.sub) hnv⟩⟩
def GoodS (w:GWork) (c:Bool) (F:List Int) (l:List ah) (val:Int) (i:Nat) (s:ah):Prop:=∃ L,(dU w).A8 (D9 F) (l.set i s) L∧Iw w c L≤val
theorem YR {l:List ah} (hl:(dU w).Wf l) {val:Int} (hv0:0≤val) (hv1:val≤2000000000000) {i:Nat} (hi:i<w.Items.length) (hoff:l[i]!.on=false) (hg:∃ L,(dU w).A8 (D9 F) l L∧Iw w c L≤val):∃ s,qN N (xP w) F l (Oz c) r val (i:Int)=some (l.set i s,s)∧s.on=true∧(dU w).EP i s∧GoodS w c F l val i s:=by
  have hN':2 ^ 64≤N:=by omega
  have hpb:=BA ok h8
  have hll:l.length=w.Items.length:=hl.len
  have hlast:=ok.last
  have hFi:=La i hi
  have hmm:=hw.m i hi
  -- one mode
  have hL1:∀ (m:Nat) (s2:ah×Int×List ah) (la:List ah),m<w.Items[i]!.Modes.length→s2.2.1=(m:Int)→la.length=w.Items.length→(∀ v,la.set i v=l.set i v)→∃ o,bM (je N (xP w) F (Oz c) r val (i:Int) s2 w.Items[i]!.Modes[m]!) N (s2.1,F[i]!,la)=some o∧((∃ s,o = .inr (s,l.set i s)∧s.on=true∧(dU w).EP i s∧GoodS w c F l val i s)∨∃ z la',o = .inl (z,la')∧la'.length=w.Items.length∧(∀ v,la'.set i v=l.set i v)∧∀ d,F[i]! ≤ d→d+w.Items[i]!.Modes[m]!.iH≤w.Last→¬ GoodS w c F l val i ⟨(m:Int),d,true⟩):=by
    intro m s2 la hm hs2 hla hse
    have hmd:=((ok.it i hi).2.2.md m hm).1
    refine ni (f:=je N (xP w) F (Oz c) r val (i:Int) s2 w.Items[i]!.Modes[m]!) (I:=fun q=>F[i]! ≤ q.2.1∧q.2.1≤400∧q.2.2.length=w.Items.length∧(∀ v,q.2.2.set i v=l.set i v)∧∀ d,F[i]! ≤ d→d<q.2.1→¬ GoodS w c F l val i ⟨(m:Int),d,true⟩) (μ:=fun q=>(w.Last+1 - q.2.1).toNat) (post:=fun o=>(∃ s,o = .inr (s,l.set i s)∧s.on=true∧(dU w).EP i s∧GoodS w c F l val i s)∨∃ z la',o = .inl (z,la')∧la'.length=w.Items.length∧(∀ v,la'.set i v=l.set i v)∧∀ d,F[i]! ≤ d→d+w.Items[i]!.Modes[m]!.iH≤w.Last→¬ GoodS w c F l val i ⟨(m:Int),d,true⟩) ?_ N _ ⟨Int.le_refl _,hFi.2,hla,hse,fun d h1 h2=>by simp only [] at h2;omega⟩ (by simp only [];omega)
    rintro ⟨z,d,lb⟩ ⟨h1,h2,h3,h4,h5⟩
    simp only at h1 h2 h3 h4 h5
    by_cases hle:d+w.Items[i]!.Modes[m]!.iH≤w.Last
    · obtain ⟨s,hs⟩:∃ s:ah,s=⟨(m:Int),d,true⟩:=⟨_,rfl⟩
      have WB:(dU w).EP i s:=by rw [hs];exact ⟨by show (0:Int)≤(m:Int);omega,by show (m:Int)<(w.Items[i]!.Modes.length:Int);omega,by show 0≤d;omega,by show d≤400;omega⟩
      have Qb:s.on=true:=by rw [hs]
      have hls:(dU w).Wf (l.set i s):=hl.set hi (fun _=>WB) (fun x=>by rw [Qb] at x;cases x)
      obtain ⟨v,u1,u2⟩:=und_eq hN hw ok h8 hF La hr hls (b:=val+1)
      have hstep:je N (xP w) F (Oz c) r val (i:Int) s2 w.Items[i]!.Modes[m]! (z,d,lb)=bif v.2 then some (.inr (.inr (s,l.set i s))) else some (.inl (z,d+1,l.set i s)):=by
        unfold je
        simp only []
        have hle':d+w.Items[i]!.Modes[m]!.iH≤(xP w).w.Last:=hle
        rw [BU (n:=d+w.Items[i]!.Modes[m]!.iH) (by omega) (by omega),yt,dT hle',jm,iV (by omega),bS,hs2,Int.toNat_natCast,h4,BU (n:=val+1) (by omega) (by omega),← hs,u1,bS]
        simp only []
        rw [iV (by rw [List.length_set];omega),bS,setB (by omega),if_pos rfl,BU (n:=d+1) (by omega) (by omega)]
      rcases u2 with ⟨a1,a2,⟨L,a3,a4⟩,_⟩ | ⟨a1,a2⟩
      · rw [a1,jm] at hstep
        exact .inr ⟨_,hstep,.inl ⟨s,rfl,Qb,WB,L,a3,by omega⟩⟩
      · rw [a1,iP] at hstep
        refine .inl ⟨_,hstep,⟨by simp only [];omega,by simp only [];omega,by simp only [List.length_set];omega,fun x=>by simp only [List.set_set],fun d' g1 g2 hg=>?_⟩,by simp only [];omega⟩
        by_cases e:d'=d
        · subst e
          obtain ⟨L,hL,hm⟩:=hg
          rw [← hs] at hL
          have:=a2 L hL
          omega
        · exact h5 d' g1 (by simp only [] at g2;omega) hg
    · right
      refine ⟨.inl (z,lb),?_,.inr ⟨z,lb,rfl,h3,h4,fun d' g1 g2=>h5 d' g1 (by omega)⟩⟩
      unfold je
      simp only []
      have hle':¬ d+w.Items[i]!.Modes[m]!.iH≤(xP w).w.Last:=hle
      rw [BU (n:=d+w.Items[i]!.Modes[m]!.iH) (by omega) (by omega),yt,dF hle',iP]
  obtain ⟨o,ho,hc⟩:=ni (f:=kz N (xP w) F (Oz c) r val (i:Int) w.Items[i]!) (I:=fun q=>∃ m:Nat,q.2.1=(m:Int)∧m≤w.Items[i]!.Modes.length∧q.2.2.length=w.Items.length∧(∀ v,q.2.2.set i v=l.set i v)∧∀ m':Nat,m'<m→∀ d,F[i]! ≤ d→d+w.Items[i]!.Modes[m']!.iH≤w.Last→¬ GoodS w c F l val i ⟨(m':Int),d,true⟩) (μ:=fun q=>w.Items[i]!.Modes.length - q.2.1.toNat) (post:=fun o=>(∃ s,o = .inr (s,l.set i s)∧s.on=true∧(dU w).EP i s∧GoodS w c F l val i s)∨∀ m':Nat,m'<w.Items[i]!.Modes.length→∀ d,F[i]! ≤ d→d+w.Items[i]!.Modes[m']!.iH≤w.Last→¬ GoodS w c F l val i ⟨(m':Int),d,true⟩) (by
    rintro ⟨z,sm,la⟩ ⟨m,hm,hml,h1,h2,h3⟩
    simp only at hm h1 h2 h3
    subst hm
    by_cases hlt:m<w.Items[i]!.Modes.length
    · obtain ⟨o,ho,hc⟩:=hL1 m (z,(m:Int),la) la hlt rfl h1 h2
      have ho:bM (je N (xP w) F (Oz c) r val (i:Int) (z,(m:Int),la) w.Items[i]!.Modes[m]!) N (z,F[i]!,la)=some o:=ho
      have hstep:kz N (xP w) F (Oz c) r val (i:Int) w.Items[i]! (z,(m:Int),la)=Sum.elim (fun Zc=>some (.inl (Zc.1,((m+1:Nat):Int),Zc.2))) (fun QG=>some (.inr (Sum.inr (QG.1,QG.2)))) o:=by
        unfold kz
        simp only []
        rw [aO,dT (by omega),jm,iV hlt,bS,iV (by omega),bS,ho,bS,kN (by omega)]
      rcases hc with ⟨s,rfl,hs⟩ | ⟨z',la',rfl,g1,g2,g3⟩
      · exact .inr ⟨_,hstep,.inl ⟨s,rfl,hs⟩⟩
      · refine .inl ⟨_, hstep, ⟨m + 1, rfl, by omega, g1, g2, fun m' hm' => ?_⟩, ?_⟩
        · by_cases e : m' = m
          · subst e;exact g3
          · exact h3 m' (by omega)
        · show w.Items[i]!.Modes.length - ((m+1:Nat):Int).toNat<w.Items[i]!.Modes.length - ((m:Nat):Int).toNat
          simp only [Int.toNat_natCast];omega
    · right
      have:m=w.Items[i]!.Modes.length:=by omega
      subst this
      refine ⟨.inl (z,la),?_,.inr h3⟩
      unfold kz
      simp only []
      rw [aO,dF (by omega),iP]) N (S0,0,l) ⟨0,rfl,Nat.zero_le _,hll,fun _=>rfl,fun m' hm'=>absurd hm' (Nat.not_lt_zero _)⟩ (by simp only [];omega)
  unfold qN
  rw [show idx (xP w).w.Items (i:Int)=some w.Items[i]! from iV hi,bS,ho,bS]
  rcases hc with ⟨s,rfl,hs⟩ | hno
  · exact ⟨s,rfl,hs⟩
  · exfalso
    obtain ⟨L,hL,hm⟩:=hg
    have hon:=hL.full i hi
    have hsl:=hL.wf.on i hi hon
    have hf:=hL.valid i hi hon
    have hm1:L[i]!.mode<(w.Items[i]!.Modes.length:Int):=hsl.m1
    have hm0:=hsl.m0
    obtain ⟨m,hmm2⟩:∃ m:Nat,L[i]!.mode=(m:Int):=⟨L[i]!.mode.toNat,by omega⟩
    have e:=Df hmm2 hon
    have h1:F[i]! ≤ L[i]!.day:=hf.solo.1
    have h2:L[i]!.day+w.Items[i]!.Modes[L[i]!.mode.toNat]!.iH≤w.Last:=hf.solo.2.1
    rw [hmm2,Int.toNat_natCast] at h2
    refine hno m (by omega) L[i]!.day h1 h2 ?_
    rw [← e]
    refine ⟨L,⟨hL.wf,hL.full,hL.valid,fun k hk hk2=>?_⟩,hm⟩
    have hk':k<w.Items.length:=hk
    rw [setB (by omega)] at hk2 ⊢
    by_cases e2:i=k
    · rw [if_pos e2,e2]
    · rw [if_neg e2] at hk2 ⊢;exact hL.sub k hk hk2
theorem Nq {l:List ah} (hl:(dU w).Wf l) {val:Int} (hv0:0≤val) (hv1:val≤2000000000000) (hg:∃ L,(dU w).A8 (D9 F) l L∧Iw w c L≤val):∃ L,iT N (xP w) F l (Oz c) r val=some L∧(dU w).A8 (D9 F) l L∧Iw w c L≤val:=by
 have hN':2 ^ 64≤N:=by omega
 have hll:l.length=w.Items.length:=hl.len
 unfold iT
 obtain ⟨o,ho,hc1,hc2⟩:=ni (f:=kC N (xP w) F l (Oz c) r val) (I:=fun q=>∃ i:Nat,q.1=(i:Int)∧i≤w.Items.length∧(dU w).Wf q.2∧(dU w).Sub l q.2∧(∀ j,j<i→q.2[j]!.on=true)∧∃ L,(dU w).A8 (D9 F) q.2 L∧Iw w c L≤val) (μ:=fun q=>w.Items.length - q.1.toNat) (post:=fun L=>(dU w).A8 (D9 F) l L∧Iw w c L≤val) (by
  rintro ⟨si,la⟩ ⟨i,hi,hil,h1,h2,h3,h4⟩
  simp only at hi h1 h2 h3 h4
  subst hi
  have hla:la.length=w.Items.length:=h1.len
  by_cases hlt:i<w.Items.length
  ·left
   have hdec:w.Items.length - ((i+1:Nat):Int).toNat<w.Items.length - ((i:Nat):Int).toNat:=by simp only [Int.toNat_natCast];omega
   cases hon:la[i]!.on with
   | true =>
    refine ⟨(((i+1:Nat):Int),la),?_,⟨i+1,rfl,by omega,h1,h2,fun j hj=>?_,h4⟩,hdec⟩
    ·unfold kC
     simp only []
     rw [hll,aO,dT (by omega),jm,iV (by omega),bS,hon,Bool.not_true,iP,kN (by omega)]
    ·by_cases e : j = i
     ·subst e;exact hon
     ·exact h3 j (by omega)
   | false =>
    obtain ⟨s,e1,e2,e3,e4⟩:=YR hN hw ok h8 hF La hr h1 hv0 hv1 hlt hon h4
    refine ⟨(((i+1:Nat):Int),la.set i s),?_,⟨i+1,rfl,by omega,h1.set hlt (fun _=>e3) (fun x=>by rw [e2] at x;cases x),fun k hk hk2=>?_,fun j hj=>?_,e4⟩,hdec⟩
    ·unfold kC
     simp only []
     rw [hll,aO,dT (by omega),jm,iV (by omega),bS,hon,Bool.not_false,jm,e1,bS]
     simp only []
     rw [iV (by rw [List.length_set];omega),bS,Int.toNat_natCast,List.set_set,kN (by omega)]
    ·show (la.set i s)[k]! = l[k]!
     have hk':k<w.Items.length:=hk
     rw [setB (by omega),if_neg]
     ·exact h2 k hk hk2
     ·intro e;subst e
      have:=h2 i hk hk2
      rw [this,hk2] at hon;cases hon
    ·show (la.set i s)[j]!.on=true
     rw [setB (by omega)]
     by_cases e:i=j
     ·rw [if_pos e];exact e2
     ·rw [if_neg e];exact h3 j (by omega)
  ·right
   have:i=w.Items.length:=by omega
   subst this
   have hfull:(dU w).Full la:=h3
   obtain ⟨L,hL,hm⟩:=h4
   have hsame:L=la:=EL (by rw [hL.wf.len,h1.len]) fun k hk=>hL.sub k (by rw [hL.wf.len] at hk;exact hk) (hfull k (by rw [hL.wf.len] at hk;exact hk))
   rw [hsame] at hL hm
   refine ⟨la,?_,⟨h1,hfull,hL.valid,h2⟩,hm⟩
   unfold kC
   simp only []
   rw [hll,aO,dF (by omega),iP]) N (0,l) ⟨0,rfl,Nat.zero_le _,hl,fun _ _ _=>rfl,fun j hj=>absurd hj (Nat.not_lt_zero _),hg⟩ (by simp only [];omega)
 rw [ho]
 exact ⟨o,rfl,hc1,hc2⟩
end
end Go.KB
