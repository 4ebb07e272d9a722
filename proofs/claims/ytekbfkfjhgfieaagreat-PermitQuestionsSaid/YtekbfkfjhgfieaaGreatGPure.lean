/- The functions as plain Lean functions. Printed by a program. No condition. -/
import Derived.Test.YtekbfkfjhgfieaaGreatGTypes
import Derived.Test.YtekbfkfjhgfieaaGreatKSos
namespace Go.KB
set_option linter.unusedVariables false
noncomputable section
def sO (N:Nat) (x0:GPermitPlan) (s10:Int):Option (Int ⊕ (Unit ⊕ Bool)) :=
  bif (aG .lss s10 (List.length x0.ak:Int)) then ((idx x0.ak s10).bind fun v11=>(bif (!(aG .gtr (List.length v11.Locks:Int) 20)) then (idx x0.ak s10) else some (⟨[],0,[],0,0,[]⟩:aH)).bind fun v12=>bif ((aG .gtr (List.length v11.Locks:Int) 20)||(aG .gtr (List.length v12.Name:Int) 40)) then (some (.inr (Sum.inr true))) else (some (.inl (IntKind.i64.wrap (s10+1))))) else (some (.inr (Sum.inl ())))
def sN (N:Nat) (x0:GPermitPlan) (s1:Int):Option (Int ⊕ (Unit ⊕ Bool)) :=
  bif (aG .lss s1 (List.length x0.bM:Int)) then ((idx x0.bM s1).bind fun v2=>(bif (!(aG .gtr (List.length v2.Next:Int) 40)) then (idx x0.bM s1) else some (⟨[],false,[]⟩:dH)).bind fun v3=>bif ((aG .gtr (List.length v2.Next:Int) 40)||(aG .gtr (List.length v3.Name:Int) 40)) then (some (.inr (Sum.inr true))) else (some (.inl (IntKind.i64.wrap (s1+1))))) else (some (.inr (Sum.inl ())))
def zQ (N:Nat) (x0:GPermitPlan):Option (Bool) :=
  bif (((aG .gtr (List.length x0.bM:Int) 40)||(aG .gtr (List.length x0.dY:Int) 40))||(aG .gtr (List.length x0.ak:Int) 30)) then (some true) else ((dX (sN N x0) N 0).bind fun o6=>Sum.elim (fun l8=>(dX (sO N x0) N 0).bind fun TV=>Sum.elim (fun l17=>some false) (fun X3=>some X3) TV) (fun r9=>some r9) o6)
def Dq (N:Nat) (x0:Str) (s1:Int):Option (Int ⊕ (Unit ⊕ Bool)) :=
  bif (aG .lss s1 (List.length x0:Int)) then ((idx x0 s1).bind fun v2=>bif ((!(((aG .geq ((UInt8.toNat v2:Nat):Int) 97)&&(aG .leq ((UInt8.toNat v2:Nat):Int) 122))||((aG .geq ((UInt8.toNat v2:Nat):Int) 65)&&(aG .leq ((UInt8.toNat v2:Nat):Int) 90))))&&((aG .eql s1 0)||((aG .neq ((UInt8.toNat v2:Nat):Int) 45)&&((aG .lss ((UInt8.toNat v2:Nat):Int) 48)||(aG .gtr ((UInt8.toNat v2:Nat):Int) 57))))) then (some (.inr (Sum.inr false))) else (some (.inl (IntKind.i64.wrap (s1+1))))) else (some (.inr (Sum.inl ())))
def x9 (N:Nat) (x0:Str):Option (Bool) :=
  bif ((aG .lss (List.length x0:Int) 1)||(aG .gtr (List.length x0:Int) 12)) then (some false) else ((dX (Dq N x0) N 0).bind fun o5=>Sum.elim (fun l7=>some true) (fun r8=>some r8) o5)
def yK (N:Nat) (x0:GPermitPlan) (x1:Str) (s1:Int):Option (Int ⊕ (Unit ⊕ Int)) :=
  bif (aG .lss s1 (List.length x0.bM:Int)) then ((idx x0.bM s1).bind fun v2=>bif (Ag .eql v2.Name x1) then (some (.inr (Sum.inr s1))) else (some (.inl (IntKind.i64.wrap (s1+1))))) else (some (.inr (Sum.inl ())))
def jh (N:Nat) (x0:GPermitPlan) (x1:Str):Option (Int) :=
  (dX (yK N x0 x1) N 0).bind fun o5=>Sum.elim (fun l7=>some (-1)) (fun r8=>some r8) o5
def yL (N:Nat) (x0:GPermitPlan) (x1:Int) (x2:Str):Option (Bool) :=
  (jh N x0 x2).bind fun v1=>some ((aG .geq v1 0)&&(aG .lss v1 x1))
def qV (N:Nat) (x0:GPermitPlan) (s15:Int) (s16:Int):Option (Int ⊕ (Unit ⊕ Int)) :=
  (idx x0.bM s15).bind fun v17=>bif (aG .lss s16 (List.length v17.Next:Int)) then ((idx x0.bM s15).bind fun v18=>(idx v18.Next s16).bind fun v19=>(jh N x0 v19).bind fun v20=>bif (aG .lss v20 0) then (some (.inr (Sum.inr 6))) else ((idx x0.bM s15).bind fun v21=>(idx v21.Next s16).bind fun v22=>(idx x0.bM s15).bind fun v23=>bif (Ag .eql v22 v23.Name) then (some (.inr (Sum.inr 3))) else (some (.inl (IntKind.i64.wrap (s16+1)))))) else (some (.inr (Sum.inl ())))
def qU (N:Nat) (x0:GPermitPlan) (s15:Int):Option (Int ⊕ (Unit ⊕ Int)) :=
  bif (aG .lss s15 (List.length x0.bM:Int)) then ((dX (qV N x0 s15) N 0).bind fun Ox=>Sum.elim (fun l29=>some (.inl (IntKind.i64.wrap (s15+1)))) (fun r30=>some (.inr (Sum.inr r30))) Ox) else (some (.inr (Sum.inl ())))
def qR (N:Nat) (x0:GPermitPlan) (s1:Int):Option (Int ⊕ (Unit ⊕ Int)) :=
  bif (aG .lss s1 (List.length x0.bM:Int)) then ((idx x0.bM s1).bind fun v2=>(x9 N v2.Name).bind fun v3=>bif (!v3) then (some (.inr (Sum.inr 4))) else ((idx x0.bM s1).bind fun v4=>(yL N x0 s1 v4.Name).bind fun v5=>bif v5 then (some (.inr (Sum.inr 5))) else ((idx x0.bM s1).bind fun v6=>bif (aG .gtr (List.length v6.Next:Int) 30) then (some (.inr (Sum.inr 8))) else (some (.inl (IntKind.i64.wrap (s1+1))))))) else (some (.inr (Sum.inl ())))
def vT (N:Nat) (x0:GPermitPlan):Option (Int) :=
  (dX (qR N x0) N 0).bind fun o11=>Sum.elim (fun l13=>(dX (qU N x0) N 0).bind fun o33=>Sum.elim (fun l35=>some 0) (fun r36=>some r36) o33) (fun r14=>some r14) o11
def AY (N:Nat) (x0:Int):Option (Bool) :=
  some ((aG .geq x0 0)&&(aG .leq x0 5))
def xG (N:Nat) (x0:GPermitPlan) (x1:Str) (s1:Int):Option (Int ⊕ (Unit ⊕ Int)) :=
  bif (aG .lss s1 (List.length x0.ak:Int)) then ((idx x0.ak s1).bind fun v2=>bif (Ag .eql v2.Name x1) then (some (.inr (Sum.inr s1))) else (some (.inl (IntKind.i64.wrap (s1+1))))) else (some (.inr (Sum.inl ())))
def qc (N:Nat) (x0:GPermitPlan) (x1:Str):Option (Int) :=
  (dX (xG N x0 x1) N 0).bind fun o5=>Sum.elim (fun l7=>some (-1)) (fun r8=>some r8) o5
def sU (N:Nat) (x0:GPermitPlan) (v29:aH) (s30:Int):Option (Int ⊕ (Unit ⊕ Int)) :=
  bif (aG .lss s30 (List.length v29.Locks:Int)) then ((idx v29.Locks s30).bind fun v31=>(qc N x0 v31).bind fun v32=>bif (aG .lss v32 0) then (some (.inr (Sum.inr 6))) else ((idx x0.ak v32).bind fun v33=>bif ((aG .neq v33.Kind 5)||(aG .eql v29.Kind 5)) then (some (.inr (Sum.inr 3))) else (some (.inl (IntKind.i64.wrap (s30+1)))))) else (some (.inr (Sum.inl ())))
def sS (N:Nat) (x0:GPermitPlan) (s28:Int):Option (Int ⊕ (Unit ⊕ Int)) :=
  bif (aG .lss s28 (List.length x0.ak:Int)) then ((idx x0.ak s28).bind fun v29=>(dX (sU N x0 v29) N 0).bind fun o37=>Sum.elim (fun l39=>some (.inl (IntKind.i64.wrap (s28+1)))) (fun r40=>some (.inr (Sum.inr r40))) o37) else (some (.inr (Sum.inl ())))
def sQ (N:Nat) (x0:GPermitPlan) (s12:Int):Option (Int ⊕ (Unit ⊕ Int)) :=
  bif (aG .lss s12 (List.length x0.ak:Int)) then ((idx x0.ak s12).bind fun v13=>(x9 N v13.Name).bind fun v14=>bif (!v14) then (some (.inr (Sum.inr 4))) else ((qc N x0 v13.Name).bind fun v15=>bif (aG .lss v15 s12) then (some (.inr (Sum.inr 5))) else ((AY N v13.Kind).bind fun v16=>bif ((((!v16)||(aG .lss v13.From 0))||(aG .geq v13.From v13.To))||(aG .gtr v13.To 1000000)) then (some (.inr (Sum.inr 2))) else ((jh N x0 v13.Space).bind fun v17=>bif (aG .lss v17 0) then (some (.inr (Sum.inr 6))) else (bif (aG .gtr (List.length v13.Locks:Int) 10) then (some (.inr (Sum.inr 8))) else (some (.inl (IntKind.i64.wrap (s12+1))))))))) else (some (.inr (Sum.inl ())))
def xI (N:Nat) (x0:GPermitPlan) (s2:Int):Option (Int ⊕ (Unit ⊕ Int)) :=
  bif (aG .lss s2 (List.length x0.dY:Int)) then ((idx x0.dY s2).bind fun v3=>(AY N v3.A).bind fun v4=>(bif (!(!v4)) then (AY N v3.B) else some false).bind fun v5=>bif ((((!v4)||(!v5))||(aG .lss v3.Reach 0))||(aG .gtr v3.Reach 2)) then (some (.inr (Sum.inr 2))) else (some (.inl (IntKind.i64.wrap (s2+1))))) else (some (.inr (Sum.inl ())))
def xH (N:Nat) (x0:GPermitPlan):Option (Int) :=
  bif (((aG .gtr (List.length x0.bM:Int) 30)||(aG .gtr (List.length x0.dY:Int) 30))||(aG .gtr (List.length x0.ak:Int) 20)) then (some 8) else (bif ((aG .lss x0.gB 1)||(aG .gtr x0.gB 10000)) then (some 2) else ((vT N x0).bind fun v1=>bif (aG .neq v1 0) then (some v1) else ((dX (xI N x0) N 0).bind fun o8=>Sum.elim (fun l10=>(dX (sQ N x0) N 0).bind fun o24=>Sum.elim (fun l26=>(dX (sS N x0) N 0).bind fun o43=>Sum.elim (fun l45=>some 0) (fun r46=>some r46) o43) (fun r27=>some r27) o24) (fun r11=>some r11) o8)))
def Ar (N:Nat) (x0:GPermitPlan):Option (Bool) :=
  (zQ N x0).bind fun v1=>(bif (!v1) then (xH N x0) else some 0).bind fun v2=>some (((((!v1)&&(aG .eql v2 0))&&(aG .leq (List.length x0.bM:Int) 8))&&(aG .leq (List.length x0.ak:Int) 8))&&(aG .leq (List.length x0.dY:Int) 12))
def Dt (N:Nat):Option ((List cZ)) :=
  some [(⟨0,2,1⟩:cZ),(⟨3,0,1⟩:cZ),(⟨3,1,1⟩:cZ),(⟨3,2,1⟩:cZ),(⟨3,3,1⟩:cZ),(⟨4,4,0⟩:cZ)]
def Ef (N:Nat):Option (GPermitPlan) :=
  (Dt N).bind fun v1=>some (⟨[(⟨([100,101,99,107]:Str),false,[([116,97,110,107]:Str)]⟩:dH),(⟨([116,97,110,107]:Str),true,[]⟩:dH),(⟨([104,111,108,100]:Str),true,[([116,97,110,107]:Str)]⟩:dH)],v1,[(⟨([119,101,108,100]:Str),0,([100,101,99,107]:Str),0,600,[]⟩:aH),(⟨([103,111]:Str),1,([116,97,110,107]:Str),0,600,[([112,117,109,112]:Str)]⟩:aH),(⟨([112,97,105,110,116]:Str),2,([104,111,108,100]:Str),0,600,[]⟩:aH),(⟨([112,117,109,112]:Str),5,([116,97,110,107]:Str),0,600,[]⟩:aH)],60⟩:GPermitPlan)
def zH (N:Nat) (x0:Int):Option (Bool) :=
  some (((aG .geq x0 97)&&(aG .leq x0 122))||((aG .geq x0 65)&&(aG .leq x0 90)))
def uO (N:Nat) (x0:Str) (s3:Int):Option (Int ⊕ (Unit ⊕ Bool)) :=
  bif (aG .lss s3 (List.length x0:Int)) then ((idx x0 s3).bind fun v4=>(zH N ((UInt8.toNat v4:Nat):Int)).bind fun v5=>bif (((!v5)&&(aG .neq ((UInt8.toNat v4:Nat):Int) 45))&&((aG .lss ((UInt8.toNat v4:Nat):Int) 48)||(aG .gtr ((UInt8.toNat v4:Nat):Int) 57))) then (some (.inr (Sum.inr false))) else (some (.inl (IntKind.i64.wrap (s3+1))))) else (some (.inr (Sum.inl ())))
def rQ (N:Nat) (x0:Str):Option (Bool) :=
  (bif (!((aG .lss (List.length x0:Int) 1)||(aG .gtr (List.length x0:Int) 12))) then (idx x0 0) else some 0).bind fun v1=>(bif (!((aG .lss (List.length x0:Int) 1)||(aG .gtr (List.length x0:Int) 12))) then (zH N ((UInt8.toNat v1:Nat):Int)) else some false).bind fun v2=>bif (((aG .lss (List.length x0:Int) 1)||(aG .gtr (List.length x0:Int) 12))||(!v2)) then (some false) else ((dX (uO N x0) N 0).bind fun o8=>Sum.elim (fun l10=>some true) (fun r11=>some r11) o8)
def qH (N:Nat) (l10:(List (Str×Bool))) (v13:dH) (s14:Int):Option (Int ⊕ (Unit ⊕ Int)) :=
  bif (aG .lss s14 (List.length v13.Next:Int)) then ((idx v13.Next s14).bind fun v15=>bif (!(jD false l10 v15)) then (some (.inr (Sum.inr 6))) else (bif (Ag .eql v15 v13.Name) then (some (.inr (Sum.inr 3))) else (some (.inl (IntKind.i64.wrap (s14+1)))))) else (some (.inr (Sum.inl ())))
def qG (N:Nat) (x0:GPermitPlan) (l10:(List (Str×Bool))) (s12:Int):Option (Int ⊕ (Unit ⊕ Int)) :=
  bif (aG .lss s12 (List.length x0.bM:Int)) then ((idx x0.bM s12).bind fun v13=>(dX (qH N l10 v13) N 0).bind fun o19=>Sum.elim (fun l21=>some (.inl (IntKind.i64.wrap (s12+1)))) (fun r22=>some (.inr (Sum.inr r22))) o19) else (some (.inr (Sum.inl ())))
def qF (N:Nat) (x0:GPermitPlan) (s1:((List (Str×Bool))×Int)):Option (((List (Str×Bool))×Int) ⊕ ((List (Str×Bool)) ⊕ Int)) :=
  bif (aG .lss s1.2 (List.length x0.bM:Int)) then ((idx x0.bM s1.2).bind fun v2=>(rQ N v2.Name).bind fun v3=>bif (!v3) then (some (.inr (Sum.inr 4))) else (bif (jD false s1.1 v2.Name) then (some (.inr (Sum.inr 5))) else (bif (aG .gtr (List.length v2.Next:Int) 30) then (some (.inr (Sum.inr 8))) else (some (.inl ((uj s1.1 v2.Name true),(IntKind.i64.wrap (s1.2+1)))))))) else (some (.inr (Sum.inl s1.1)))
def uV (N:Nat) (x0:GPermitPlan):Option (Int) :=
  (dX (qF N x0) N (([]:(List (Str×Bool))),0)).bind fun o8=>Sum.elim (fun l10=>(dX (qG N x0 l10) N 0).bind fun o25=>Sum.elim (fun l27=>some 0) (fun r28=>some r28) o25) (fun r11=>some r11) o8
def zS (N:Nat) (x0:Int):Option (Bool) :=
  some ((aG .geq x0 0)&&(aG .leq x0 5))
def wK (N:Nat) (x0:dH) (c0:Str):Option (Bool) :=
  some (Ag .eql x0.Name c0)
def kL (N:Nat) (x0:(List dH)) (x1:(dH→Option Bool)) (s1:Int):Option (Int ⊕ (Unit ⊕ Int)) :=
  bif (aG .lss s1 (List.length x0:Int)) then ((idx x0 s1).bind fun v2=>(x1 v2).bind fun v3=>bif v3 then (some (.inr (Sum.inr s1))) else (some (.inl (IntKind.i64.wrap (s1+1))))) else (some (.inr (Sum.inl ())))
def lH (N:Nat) (x0:(List dH)) (x1:(dH→Option Bool)):Option (Int) :=
  (dX (kL N x0 x1) N 0).bind fun o6=>Sum.elim (fun l8=>some (-1)) (fun r9=>some r9) o6
def je (N:Nat) (x0:GPermitPlan) (x1:Str):Option (dH×Bool) :=
  (lH N x0.bM (fun y0=>wK N y0 x1)).bind fun v1=>bif (aG .lss v1 0) then (some ((⟨[],false,[]⟩:dH),false)) else ((idx x0.bM v1).bind fun v2=>some (v2,true))
def vU (N:Nat) (x0:aH) (c0:Str):Option (Bool) :=
  some (Ag .eql x0.Name c0)
def jU (N:Nat) (x0:(List aH)) (x1:(aH→Option Bool)) (s1:Int):Option (Int ⊕ (Unit ⊕ Int)) :=
  bif (aG .lss s1 (List.length x0:Int)) then ((idx x0 s1).bind fun v2=>(x1 v2).bind fun v3=>bif v3 then (some (.inr (Sum.inr s1))) else (some (.inl (IntKind.i64.wrap (s1+1))))) else (some (.inr (Sum.inl ())))
def kR (N:Nat) (x0:(List aH)) (x1:(aH→Option Bool)):Option (Int) :=
  (dX (jU N x0 x1) N 0).bind fun o6=>Sum.elim (fun l8=>some (-1)) (fun r9=>some r9) o6
def oU (N:Nat) (x0:GPermitPlan) (x1:Str):Option (aH×Bool) :=
  (kR N x0.ak (fun y0=>vU N y0 x1)).bind fun v1=>bif (aG .lss v1 0) then (some ((⟨[],0,[],0,0,[]⟩:aH),false)) else ((idx x0.ak v1).bind fun v2=>some (v2,true))
def qm (N:Nat) (x0:GPermitPlan) (v17:aH) (s18:Int):Option (Int ⊕ (Unit ⊕ Int)) :=
  bif (aG .lss s18 (List.length v17.Locks:Int)) then ((idx v17.Locks s18).bind fun v19=>(oU N x0 v19).bind fun v20=>bif (!v20.2) then (some (.inr (Sum.inr 6))) else (bif ((aG .neq v20.1.Kind 5)||(aG .eql v17.Kind 5)) then (some (.inr (Sum.inr 3))) else (some (.inl (IntKind.i64.wrap (s18+1)))))) else (some (.inr (Sum.inl ())))
def ql (N:Nat) (x0:GPermitPlan) (s16:Int):Option (Int ⊕ (Unit ⊕ Int)) :=
  bif (aG .lss s16 (List.length x0.ak:Int)) then ((idx x0.ak s16).bind fun v17=>(dX (qm N x0 v17) N 0).bind fun o24=>Sum.elim (fun l26=>some (.inl (IntKind.i64.wrap (s16+1)))) (fun r27=>some (.inr (Sum.inr r27))) o24) else (some (.inr (Sum.inl ())))
def qj (N:Nat) (x0:GPermitPlan) (s1:((List (Str×Bool))×Int)):Option (((List (Str×Bool))×Int) ⊕ (Unit ⊕ Int)) :=
  bif (aG .lss s1.2 (List.length x0.ak:Int)) then ((idx x0.ak s1.2).bind fun v2=>(je N x0 v2.Space).bind fun v3=>(rQ N v2.Name).bind fun v4=>bif (!v4) then (some (.inr (Sum.inr 4))) else (bif (jD false s1.1 v2.Name) then (some (.inr (Sum.inr 5))) else ((zS N v2.Kind).bind fun v5=>bif ((((!v5)||(aG .lss v2.From 0))||(aG .geq v2.From v2.To))||(aG .gtr v2.To 1000000)) then (some (.inr (Sum.inr 2))) else (bif (!v3.2) then (some (.inr (Sum.inr 6))) else (bif (aG .gtr (List.length v2.Locks:Int) 10) then (some (.inr (Sum.inr 8))) else (some (.inl ((uj s1.1 v2.Name true),(IntKind.i64.wrap (s1.2+1)))))))))) else (some (.inr (Sum.inl ())))
def uH (N:Nat) (x0:GPermitPlan):Option (Int) :=
  (dX (qj N x0) N (([]:(List (Str×Bool))),0)).bind fun YO=>Sum.elim (fun l14=>(dX (ql N x0) N 0).bind fun o30=>Sum.elim (fun l32=>some 0) (fun r33=>some r33) o30) (fun r15=>some r15) YO
def rJ (N:Nat) (x0:GPermitPlan) (s2:Int):Option (Int ⊕ (Unit ⊕ Int)) :=
  bif (aG .lss s2 (List.length x0.dY:Int)) then ((idx x0.dY s2).bind fun v3=>(zS N v3.A).bind fun v4=>(bif (!(!v4)) then (zS N v3.B) else some false).bind fun v5=>bif ((((!v4)||(!v5))||(aG .lss v3.Reach 0))||(aG .gtr v3.Reach 2)) then (some (.inr (Sum.inr 2))) else (some (.inl (IntKind.i64.wrap (s2+1))))) else (some (.inr (Sum.inl ())))
def uM (N:Nat) (x0:GPermitPlan):Option (Int) :=
  bif (((aG .gtr (List.length x0.bM:Int) 30)||(aG .gtr (List.length x0.dY:Int) 30))||(aG .gtr (List.length x0.ak:Int) 20)) then (some 8) else (bif ((aG .lss x0.gB 1)||(aG .gtr x0.gB 10000)) then (some 2) else ((uV N x0).bind fun v1=>bif (aG .neq v1 0) then (some v1) else ((dX (rJ N x0) N 0).bind fun o8=>Sum.elim (fun l10=>(uH N x0).bind fun v12=>some v12) (fun r11=>some r11) o8)))
def mP (N:Nat) (x0:(List Str)) (x1:Str) (s1:Int):Option (Int ⊕ (Unit ⊕ Int)) :=
  bif (aG .lss s1 (List.length x0:Int)) then ((idx x0 s1).bind fun v2=>bif (Ag .eql x1 v2) then (some (.inr (Sum.inr s1))) else (some (.inl (IntKind.i64.wrap (s1+1))))) else (some (.inr (Sum.inl ())))
def rV (N:Nat) (x0:(List Str)) (x1:Str):Option (Int) :=
  (dX (mP N x0 x1) N 0).bind fun o5=>Sum.elim (fun l7=>some (-1)) (fun r8=>some r8) o5
def iZ (N:Nat) (x0:(List Str)) (x1:Str):Option (Bool) :=
  (rV N x0 x1).bind fun v1=>some (aG .geq v1 0)
def tN (N:Nat) (x0:GPermitPlan) (x1:Str) (x2:Str):Option (Int) :=
  (je N x0 x1).bind fun v1=>(je N x0 x2).bind fun v2=>bif (Ag .eql x1 x2) then (some 0) else ((iZ N v1.1.Next x2).bind fun v3=>(bif (!v3) then (iZ N v2.1.Next x1) else some false).bind fun v4=>bif (v3||v4) then (some 1) else (some 2))
def Gu (N:Nat) (x0:GPermitPlan) (x1:Str) (x2:Str):Option (Int×Int) :=
  (uM N x0).bind fun v1=>bif (aG .neq v1 0) then (some (0,v1)) else ((je N x0 x1).bind fun v2=>(je N x0 x2).bind fun v3=>bif ((!v2.2)||(!v3.2)) then (some (0,6)) else ((tN N x0 x1 x2).bind fun v4=>some (v4,0)))
def nO (N:Nat) (x0:(List dH)):Option ((List dH)) :=
  (app ([]:(List dH)) x0).bind fun v1=>some v1
def ku (N:Nat) (x0:(List cZ)):Option ((List cZ)) :=
  (app ([]:(List cZ)) x0).bind fun v1=>some v1
def mJ (N:Nat) (x0:(List aH)):Option ((List aH)) :=
  (app ([]:(List aH)) x0).bind fun v1=>some v1
def iI (N:Nat) (x0:(List Str)):Option ((List Str)) :=
  (app ([]:(List Str)) x0).bind fun v1=>some v1
def sD (N:Nat) (v3:(List aH)) (s14:(Int×(List aH))):Option ((Int×(List aH)) ⊕ (List aH)) :=
  bif (aG .lss s14.1 (List.length v3:Int)) then ((idx s14.2 s14.1).bind fun v15=>(iI N v15.Locks).bind fun v16=>(idx s14.2 s14.1).bind fun v17=>some (.inl ((IntKind.i64.wrap (s14.1+1)),(List.set s14.2 (Int.toNat s14.1) ({ v17 with Locks:=v16 }:aH))))) else (some (.inr s14.2))
def su (N:Nat) (v1:(List dH)) (s7:(Int×(List dH))):Option ((Int×(List dH)) ⊕ (List dH)) :=
  bif (aG .lss s7.1 (List.length v1:Int)) then ((idx s7.2 s7.1).bind fun v8=>(iI N v8.Next).bind fun v9=>(idx s7.2 s7.1).bind fun v10=>some (.inl ((IntKind.i64.wrap (s7.1+1)),(List.set s7.2 (Int.toNat s7.1) ({ v10 with Next:=v9 }:dH))))) else (some (.inr s7.2))
def zG (N:Nat) (x0:GPermitPlan):Option (GPermitPlan) :=
  (nO N x0.bM).bind fun v1=>(ku N x0.dY).bind fun v2=>(mJ N x0.ak).bind fun v3=>(dX (su N v1) N (0,v1)).bind fun YO=>(dX (sD N v3) N (0,v3)).bind fun o19=>some ({ ({ x0 with dY:=v2 }:GPermitPlan) with bM:=YO,ak:=o19 }:GPermitPlan)
def pJ (N:Nat) (x0:(List Int)) (x1:Int) (s1:Int):Option (Int ⊕ (Unit ⊕ Int)) :=
  bif (aG .lss s1 (List.length x0:Int)) then ((idx x0 s1).bind fun v2=>bif (aG .eql x1 v2) then (some (.inr (Sum.inr s1))) else (some (.inl (IntKind.i64.wrap (s1+1))))) else (some (.inr (Sum.inl ())))
def vX (N:Nat) (x0:(List Int)) (x1:Int):Option (Int) :=
  (dX (pJ N x0 x1) N 0).bind fun o5=>Sum.elim (fun l7=>some (-1)) (fun r8=>some r8) o5
def pK (N:Nat) (x0:(List Int)) (x1:Int):Option (Bool) :=
  (vX N x0 x1).bind fun v1=>some (aG .geq v1 0)
def gW (N:Nat) (g0:ai) (aQ:(List (Str×ah))) (aI:(List (Str×au))) (aO:(List (Str×Str))) (x1:Str) (x2:(List Int)):Option Bool :=
  (pK N x2 ((jD (⟨0,[],0⟩:ah) aQ x1).state)).bind fun v1=>some v1
def gK (N:Nat) (g0:ai) (aQ:(List (Str×ah))) (aI:(List (Str×au))) (aO:(List (Str×Str))) (x1:Str) (x2:Int):Option (List (Str×ah)) :=
  some (uj aQ x1 ({ (jD (⟨0,[],0⟩:ah) aQ x1) with state:=x2 }:ah))
def vw (N:Nat) (x0:GPermitPlan) (v1:(dH×Bool)) (s11:((List Str)×Int)):Option (((List Str)×Int) ⊕ (List Str)) :=
  bif (aG .lss s11.2 (List.length x0.bM:Int)) then ((idx x0.bM s11.2).bind fun v12=>(bif v12.dD then (tN N x0 v12.Name v1.1.Name) else some 0).bind fun v13=>bif (v12.dD&&(aG .eql v13 1)) then ((app s11.1 [v12.Name]).bind fun v14=>some (.inl (v14,(IntKind.i64.wrap (s11.2+1))))) else (some (.inl (s11.1,(IntKind.i64.wrap (s11.2+1)))))) else (some (.inr s11.1))
def Ap (N:Nat) (x0:GPermitPlan) (x1:aH):Option ((List Str)) :=
  (je N x0 x1.Space).bind fun v1=>((((bif (aG .eql x1.Kind 0) then (some (aG .eql x1.Kind 0)) else (bif (aG .eql x1.Kind 1) then (some (aG .eql x1.Kind 1)) else (some (aG .eql x1.Kind 2)))):Option Bool).bind fun o4=>bif o4 then (bif v1.1.dD then ((app [] [v1.1.Name]).bind fun v6=>some v6) else (some [])) else (some [])):Option (List Str)).bind fun o9=>bif (aG .eql x1.Kind 0) then ((dX (vw N x0 v1) N (o9,0)).bind fun jk=>some jk) else (some o9)
def qQ (N:Nat) (g0:ai) (aQ:(List (Str×ah))) (aI:(List (Str×au))) (aO:(List (Str×Str))) (x1:Str):Option (Bool×Bool) :=
  (je N g0.plan x1).bind fun v1=>bif (!v1.1.dD) then (some (true,true)) else (some ((((((qM aI x1)&&(aG .leq (IntKind.i64.wrap (g0.now - ((jD (⟨0,0,0⟩:au) aI x1).at_))) g0.plan.gB))&&(aG .geq ((jD (⟨0,0,0⟩:au) aI x1).oK) 195))&&(aG .leq ((jD (⟨0,0,0⟩:au) aI x1).oK) 235))&&(aG .leq ((jD (⟨0,0,0⟩:au) aI x1).Ro) 50)),((((((qM aI x1)&&(aG .leq (IntKind.i64.wrap (g0.now - ((jD (⟨0,0,0⟩:au) aI x1).at_))) g0.plan.gB))&&(aG .geq ((jD (⟨0,0,0⟩:au) aI x1).oK) 195))&&(aG .leq ((jD (⟨0,0,0⟩:au) aI x1).oK) 235))&&(aG .leq ((jD (⟨0,0,0⟩:au) aI x1).Ro) 50))&&(aG .leq ((jD (⟨0,0,0⟩:au) aI x1).Ro) 10))))
def oG (N:Nat) (g0:ai) (aQ:(List (Str×ah))) (aI:(List (Str×au))) (aO:(List (Str×Str))) (x0:Str) (c1:aH):Option Bool :=
  (qQ N g0 aQ aI aO x0).bind fun v1=>bif (aG .eql c1.Kind 0) then (some v1.2) else (some v1.1)
def iw (N:Nat) (g0:ai) (aQ:(List (Str×ah))) (aI:(List (Str×au))) (aO:(List (Str×Str))) (x0:(List Str)) (qh:aH) (s1:Int):Option (Int ⊕ (Unit ⊕ Int)) :=
  bif (aG .lss s1 (List.length x0:Int)) then ((idx x0 s1).bind fun v2=>(oG N g0 aQ aI aO v2 qh).bind fun v3=>bif v3 then (some (.inr (Sum.inr s1))) else (some (.inl (IntKind.i64.wrap (s1+1))))) else (some (.inr (Sum.inl ())))
def iJ (N:Nat) (g0:ai) (aQ:(List (Str×ah))) (aI:(List (Str×au))) (aO:(List (Str×Str))) (x0:(List Str)) (qh:aH):Option Int :=
  (dX (iw N g0 aQ aI aO x0 qh) N 0).bind fun o6=>Sum.elim (fun l8=>some (-1)) (fun r9=>some r9) o6
def ig (N:Nat) (g0:ai) (aQ:(List (Str×ah))) (aI:(List (Str×au))) (aO:(List (Str×Str))) (qh:aH) (s2:((List Str)×Int×Int)):Option (((List Str)×Int×Int) ⊕ ((List Str)×Int)) :=
  bif (aG .lss s2.2.2 (List.length s2.1:Int)) then ((idx s2.1 s2.2.2).bind fun v3=>(oG N g0 aQ aI aO v3 qh).bind fun v4=>bif (!v4) then ((idx s2.1 s2.2.1).bind fun v5=>some (.inl ((List.set s2.1 (Int.toNat s2.2.1) v3),(IntKind.i64.wrap (s2.2.1+1)),(IntKind.i64.wrap (s2.2.2+1))))) else (some (.inl (s2.1,s2.2.1,(IntKind.i64.wrap (s2.2.2+1)))))) else (some (.inr (s2.1,s2.2.1)))
def iE (N:Nat) (g0:ai) (aQ:(List (Str×ah))) (aI:(List (Str×au))) (aO:(List (Str×Str))) (x0:(List Str)) (qh:aH):Option (List Str) :=
  (iJ N g0 aQ aI aO x0 qh).bind fun v1=>bif (aG .eql v1 (-1)) then (some x0) else ((dX (ig N g0 aQ aI aO qh) N (x0,v1,(IntKind.i64.wrap (v1+1)))).bind fun o8=>(OC o8.1 o8.2 (List.length o8.1:Int)).bind fun v10=>(bif Nat.beq ((Int.toNat o8.2)+(Int.toNat (List.length o8.1:Int) - Int.toNat o8.2)) (List.length o8.1) then some (List.take (Int.toNat o8.2) o8.1 ++ List.replicate (Int.toNat (List.length o8.1:Int) - Int.toNat o8.2) []) else none).bind fun v11=>(OC v11 0 o8.2).bind fun v12=>some v12)
def pM (N:Nat) (g0:ai) (aQ:(List (Str×ah))) (aI:(List (Str×au))) (aO:(List (Str×Str))) (x1:aH):Option (List Str) :=
  (Ap N g0.plan x1).bind fun v1=>(iE N g0 aQ aI aO v1 x1).bind fun v2=>some v2
def lZ (N:Nat) (g0:ai) (aQ:(List (Str×ah))) (aI:(List (Str×au))) (aO:(List (Str×Str))) (x0:Str):Option Bool :=
  (gW N g0 aQ aI aO x0 [2]).bind fun v1=>some v1
def gZ (N:Nat) (g0:ai) (aQ:(List (Str×ah))) (aI:(List (Str×au))) (aO:(List (Str×Str))) (x0:(List Str)) (s1:Int):Option (Int ⊕ (Unit ⊕ Int)) :=
  bif (aG .lss s1 (List.length x0:Int)) then ((idx x0 s1).bind fun v2=>(lZ N g0 aQ aI aO v2).bind fun v3=>bif v3 then (some (.inr (Sum.inr s1))) else (some (.inl (IntKind.i64.wrap (s1+1))))) else (some (.inr (Sum.inl ())))
def iD (N:Nat) (g0:ai) (aQ:(List (Str×ah))) (aI:(List (Str×au))) (aO:(List (Str×Str))) (x0:(List Str)):Option Int :=
  (dX (gZ N g0 aQ aI aO x0) N 0).bind fun o6=>Sum.elim (fun l8=>some (-1)) (fun r9=>some r9) o6
def fZ (N:Nat) (g0:ai) (aQ:(List (Str×ah))) (aI:(List (Str×au))) (aO:(List (Str×Str))) (s2:((List Str)×Int×Int)):Option (((List Str)×Int×Int) ⊕ ((List Str)×Int)) :=
  bif (aG .lss s2.2.2 (List.length s2.1:Int)) then ((idx s2.1 s2.2.2).bind fun v3=>(lZ N g0 aQ aI aO v3).bind fun v4=>bif (!v4) then ((idx s2.1 s2.2.1).bind fun v5=>some (.inl ((List.set s2.1 (Int.toNat s2.2.1) v3),(IntKind.i64.wrap (s2.2.1+1)),(IntKind.i64.wrap (s2.2.2+1))))) else (some (.inl (s2.1,s2.2.1,(IntKind.i64.wrap (s2.2.2+1)))))) else (some (.inr (s2.1,s2.2.1)))
def jl (N:Nat) (g0:ai) (aQ:(List (Str×ah))) (aI:(List (Str×au))) (aO:(List (Str×Str))) (x0:(List Str)):Option (List Str) :=
  (iD N g0 aQ aI aO x0).bind fun v1=>bif (aG .eql v1 (-1)) then (some x0) else ((dX (fZ N g0 aQ aI aO) N (x0,v1,(IntKind.i64.wrap (v1+1)))).bind fun o8=>(OC o8.1 o8.2 (List.length o8.1:Int)).bind fun v10=>(bif Nat.beq ((Int.toNat o8.2)+(Int.toNat (List.length o8.1:Int) - Int.toNat o8.2)) (List.length o8.1) then some (List.take (Int.toNat o8.2) o8.1 ++ List.replicate (Int.toNat (List.length o8.1:Int) - Int.toNat o8.2) []) else none).bind fun v11=>(OC v11 0 o8.2).bind fun v12=>some v12)
def nN (N:Nat) (g0:ai) (aQ:(List (Str×ah))) (aI:(List (Str×au))) (aO:(List (Str×Str))) (x1:aH):Option (List Str) :=
  (iI N x1.Locks).bind fun v1=>(jl N g0 aQ aI aO v1).bind fun v2=>some v2
def mY (N:Nat) (g0:ai) (aI:(List (Str×au))) (aO:(List (Str×Str))) (s10:(Bool×Int×(List (Str×ah)))):Option ((Bool×Int×(List (Str×ah))) ⊕ (Bool×(List (Str×ah)))) :=
  bif (aG .lss s10.2.1 (List.length g0.plan.ak:Int)) then ((idx g0.plan.ak s10.2.1).bind fun v11=>(gW N g0 s10.2.2 aI aO v11.Name [2]).bind fun v12=>(bif v12 then (pM N g0 s10.2.2 aI aO v11) else some []).bind fun v13=>(bif (v12&&(!(aG .gtr (List.length v13:Int) 0))) then (nN N g0 s10.2.2 aI aO v11) else some []).bind fun v14=>bif (v12&&((aG .gtr (List.length v13:Int) 0)||(aG .gtr (List.length v14:Int) 0))) then ((gK N g0 s10.2.2 aI aO v11.Name 3).bind fun v15=>some (.inl (true,(IntKind.i64.wrap (s10.2.1+1)),v15))) else (some (.inl (s10.1,(IntKind.i64.wrap (s10.2.1+1)),s10.2.2)))) else (some (.inr (s10.1,s10.2.2)))
def oD (N:Nat) (g0:ai) (aI:(List (Str×au))) (aO:(List (Str×Str))) (s9:(Bool×(List (Str×ah)))):Option ((Bool×(List (Str×ah))) ⊕ (List (Str×ah))) :=
  bif s9.1 then ((dX (mY N g0 aI aO) N (false,0,s9.2)).bind fun YW=>some (.inl (YW.1,YW.2))) else (some (.inr s9.2))
def oC (N:Nat) (g0:ai) (aI:(List (Str×au))) (aO:(List (Str×Str))) (s1:(Int×(List (Str×ah)))):Option ((Int×(List (Str×ah))) ⊕ (List (Str×ah))) :=
  bif (aG .lss s1.1 (List.length g0.plan.ak:Int)) then ((idx g0.plan.ak s1.1).bind fun v2=>(gW N g0 s1.2 aI aO v2.Name [0,1,2,3]).bind fun v3=>bif (v3&&(aG .leq ((jD (⟨0,[],0⟩:ah) s1.2 v2.Name).zF) g0.now)) then ((gK N g0 s1.2 aI aO v2.Name 6).bind fun v4=>some (.inl ((IntKind.i64.wrap (s1.1+1)),v4))) else (some (.inl ((IntKind.i64.wrap (s1.1+1)),s1.2)))) else (some (.inr s1.2))
def nG (N:Nat) (g0:ai) (aQ:(List (Str×ah))) (aI:(List (Str×au))) (aO:(List (Str×Str))):Option (List (Str×ah)) :=
  (dX (oC N g0 aI aO) N (0,aQ)).bind fun o7=>(dX (oD N g0 aI aO) N (true,o7)).bind fun YN=>some YN
def rH (N:Nat) (x0:GPermitPlan) (s7:(Int×(List (Str×ah)))):Option ((Int×(List (Str×ah))) ⊕ (List (Str×ah))) :=
  bif (aG .lss s7.1 (List.length x0.ak:Int)) then ((idx x0.ak s7.1).bind fun v8=>some (.inl ((IntKind.i64.wrap (s7.1+1)),(uj s7.2 v8.Name (⟨0,[],v8.To⟩:ah))))) else (some (.inr s7.2))
def wJ (N:Nat) (x0:GPermitPlan):Option ((Option (ai×(List (Str×ah))×(List (Str×au))×(List (Str×Str))))×(Int)) :=
  (uM N x0).bind fun v1=>bif (aG .neq v1 0) then (some (none,v1)) else ((zG N x0).bind fun v2=>(dX (rH N x0) N (0,([]:(List (Str×ah))))).bind fun Sl=>(nG N (⟨v2,0,[]⟩:ai) Sl ([]:(List (Str×au))) ([]:(List (Str×Str)))).bind fun v12=>some ((some ((⟨v2,0,[]⟩:ai),v12,([]:(List (Str×au))),([]:(List (Str×Str))))),0))
def yJ (N:Nat):Option ((List bT)) :=
  some [(⟨([116,105,99,107]:Str),([]:Str),([]:(List Int)),(some 125)⟩:bT),(⟨([97,112,112,114,111,118,101]:Str),([110,112]:Str),[0],(some 126)⟩:bT),(⟨([111,112,101,110]:Str),([110,112]:Str),[1],(some 127)⟩:bT),(⟨([115,117,115,112,101,110,100]:Str),([110]:Str),[2],(some 128)⟩:bT),(⟨([114,101,115,117,109,101]:Str),([110,112]:Str),[3],(some 127)⟩:bT),(⟨([99,108,111,115,101]:Str),([110]:Str),[2,3],(some 129)⟩:bT),(⟨([99,97,110,99,101,108]:Str),([110]:Str),[0,1],(some 130)⟩:bT),(⟨([103,97,115]:Str),([115,111,103]:Str),([]:(List Int)),(some 131)⟩:bT),(⟨([101,110,116,101,114]:Str),([112,115]:Str),([]:(List Int)),(some 132)⟩:bT),(⟨([108,101,97,118,101]:Str),([112]:Str),([]:(List Int)),(some 133)⟩:bT),(⟨([97,108,97,114,109]:Str),([115]:Str),([]:(List Int)),(some 134)⟩:bT),(⟨([101,120,116,101,110,100]:Str),([110,112,116]:Str),[1,2,3],(some 135)⟩:bT)]
def xZ (N:Nat) (x0:Int):Option (Bool) :=
  some ((aG .geq x0 0)&&(aG .leq x0 1000000))
def zh (N:Nat) (x0:(Option (ai×Value×Value×Value))) (x1:GEvent):Option ((List Str)×Int) :=
  (yJ N).bind fun v1=>bif (Option.isNone x0) then (some ([],1)) else ((bif (!((aG .lss x1.Op 0)||(aG .geq x1.Op (List.length v1:Int)))) then (xZ N x1.At) else some false).bind fun v2=>bif (((aG .lss x1.Op 0)||(aG .geq x1.Op (List.length v1:Int)))||(!v2)) then (some ([],2)) else (none))
def xh (N:Nat) (x0:(List Str)) (x1:(List Str)) (s1:Int):Option (Int ⊕ (Unit ⊕ Bool)) :=
  bif (aG .lss s1 (List.length x0:Int)) then ((idx x0 s1).bind fun v2=>(idx x1 s1).bind fun v3=>bif (Ag .neq v2 v3) then (some (.inr (Sum.inr false))) else (some (.inl (IntKind.i64.wrap (s1+1))))) else (some (.inr (Sum.inl ())))
def qA (N:Nat) (x0:(List Str)) (x1:(List Str)):Option (Bool) :=
  bif (aG .neq (List.length x0:Int) (List.length x1:Int)) then (some false) else ((dX (xh N x0 x1) N 0).bind fun o6=>Sum.elim (fun l8=>some true) (fun r9=>some r9) o6)
def zi (N:Nat) (g0:ai) (aQ:(List (Str×ah))) (aI:(List (Str×au))) (aO:(List (Str×Str))) (x1:GEvent):Option ay :=
  some (⟨[],0⟩:ay)
def lG (N:Nat) (x0:Int) (x1:(List Str)):Option (ay) :=
  some (⟨x1,x0⟩:ay)
def rq (N:Nat) (g0:ai) (aQ:(List (Str×ah))) (aI:(List (Str×au))) (aO:(List (Str×Str))) (x1:GEvent):Option ((List (Str×ah))×ay) :=
  (rQ N x1.Person).bind fun v1=>bif (!v1) then ((lG N 4 ([]:(List Str))).bind fun v2=>some (aQ,v2)) else (some ((uj aQ x1.Name ({ ({ (jD (⟨0,[],0⟩:ah) aQ x1.Name) with state:=1 }:ah) with AU:=x1.Person }:ah)),(⟨[],0⟩:ay)))
def pI (N:Nat) (g0:ai) (aQ:(List (Str×ah))) (aI:(List (Str×au))) (aO:(List (Str×Str))) (x1:aH):Option aH :=
  some x1
def vS (N:Nat) (x0:cZ) (c0:Int) (c1:aH) (c2:aH):Option (Bool) :=
  some ((aG .leq c0 x0.Reach)&&(((aG .eql x0.A c1.Kind)&&(aG .eql x0.B c2.Kind))||((aG .eql x0.A c2.Kind)&&(aG .eql x0.B c1.Kind))))
def jd (N:Nat) (x0:(List cZ)) (x1:(cZ→Option Bool)) (s1:Int):Option (Int ⊕ (Unit ⊕ Int)) :=
  bif (aG .lss s1 (List.length x0:Int)) then ((idx x0 s1).bind fun v2=>(x1 v2).bind fun v3=>bif v3 then (some (.inr (Sum.inr s1))) else (some (.inl (IntKind.i64.wrap (s1+1))))) else (some (.inr (Sum.inl ())))
def jw (N:Nat) (x0:(List cZ)) (x1:(cZ→Option Bool)):Option (Int) :=
  (dX (jd N x0 x1) N 0).bind fun o6=>Sum.elim (fun l8=>some (-1)) (fun r9=>some r9) o6
def kE (N:Nat) (x0:(List cZ)) (x1:(cZ→Option Bool)):Option (Bool) :=
  (jw N x0 x1).bind fun v1=>some (aG .geq v1 0)
def xE (N:Nat) (x0:GPermitPlan) (x1:aH) (x2:aH):Option (Bool) :=
  bif (Ag .eql x1.Name x2.Name) then (some false) else ((tN N x0 x1.Space x2.Space).bind fun v1=>(kE N x0.dY (fun y0=>vS N y0 v1 x1 x2)).bind fun v2=>some v2)
def pz (N:Nat) (g0:ai) (aQ:(List (Str×ah))) (aI:(List (Str×au))) (aO:(List (Str×Str))) (x0:aH) (c1:aH):Option Bool :=
  (xE N g0.plan x0 c1).bind fun v1=>some v1
def iW (N:Nat) (g0:ai) (aQ:(List (Str×ah))) (aI:(List (Str×au))) (aO:(List (Str×Str))) (qh:aH) (s1:((List Str)×Int)):Option (((List Str)×Int) ⊕ (List Str)) :=
  bif (aG .lss s1.2 (List.length g0.plan.ak:Int)) then ((idx g0.plan.ak s1.2).bind fun v2=>(gW N g0 aQ aI aO v2.Name [2]).bind fun v3=>(bif v3 then (pz N g0 aQ aI aO v2 qh) else some false).bind fun v4=>bif (v3&&v4) then ((app s1.1 [v2.Name]).bind fun v5=>some (.inl (v5,(IntKind.i64.wrap (s1.2+1))))) else (some (.inl (s1.1,(IntKind.i64.wrap (s1.2+1)))))) else (some (.inr s1.1))
def kK (N:Nat) (g0:ai) (aQ:(List (Str×ah))) (aI:(List (Str×au))) (aO:(List (Str×Str))) (qh:aH):Option (List Str) :=
  (dX (iW N g0 aQ aI aO qh) N ([],0)).bind fun o8=>some o8
def qB (N:Nat) (g0:ai) (aQ:(List (Str×ah))) (aI:(List (Str×au))) (x0:Str) (c1:aH):Option Bool :=
  (tN N g0.plan x0 c1.Space).bind fun v1=>some (aG .leq v1 1)
def mV (N:Nat) (x0:(List Str)):Option ((List Str)):=RF x0
def jm (N:Nat) (g0:ai) (aQ:(List (Str×ah))) (aI:(List (Str×au))) (qh:aH) (s2:(List Str)) (p3:(Str×Str)):Option (List Str) :=
  (qB N g0 aQ aI p3.2 qh).bind fun v5=>bif v5 then ((app s2 [p3.1]).bind fun v6=>some v6) else (some s2)
def jR (N:Nat) (g0:ai) (aQ:(List (Str×ah))) (aI:(List (Str×au))) (aO:(List (Str×Str))) (qh:aH):Option (List Str) :=
  Jt aO fun q4p=>(Me (jm N g0 aQ aI qh) q4p []).bind fun s2=>(mV N s2).bind fun v8=>some v8
def iM {S:Type} (N:Nat) (Y:S→bD→Option (S×Bool)) (o8:(List bD)) (s10:(Int×S)):Option ((Int×S) ⊕ (S ⊕ S)) :=
  bif (aG .lss s10.1 (List.length o8:Int)) then ((idx o8 s10.1).bind fun v11=>(bif (aG .gtr (List.length v11.Names:Int) 0) then (Y s10.2 v11) else some (s10.2,false)).bind fun v12=>bif ((aG .gtr (List.length v11.Names:Int) 0)&&(!v12.2)) then (some (.inr (Sum.inr v12.1))) else (some (.inl ((IntKind.i64.wrap (s10.1+1)),v12.1)))) else (some (.inr (Sum.inl s10.2)))
def kW {S:Type} (N:Nat) (Y:S→bD→Option (S×Bool)) (y0:S) (g0:ai) (aQ:(List (Str×ah))) (aI:(List (Str×au))) (aO:(List (Str×Str))) (c1:aH):Option S :=
  (bif (aG .lss g0.now c1.From) then (Y y0 (⟨2,[]⟩:bD)) else some (y0,false)).bind fun v1=>bif ((aG .lss g0.now c1.From)&&(!v1.2)) then (some v1.1) else ((nN N g0 aQ aI aO c1).bind fun v2=>(kK N g0 aQ aI aO c1).bind fun v3=>(pM N g0 aQ aI aO c1).bind fun v4=>((bif (aG .eql c1.Kind 3) then ((jR N g0 aQ aI aO c1).bind fun v5=>(app [(⟨18,v2⟩:bD),(⟨20,v3⟩:bD),(⟨21,v4⟩:bD)] [(⟨17,v5⟩:bD)]).bind fun v6=>some v6) else (some [(⟨18,v2⟩:bD),(⟨20,v3⟩:bD),(⟨21,v4⟩:bD)])):Option (List bD)).bind fun o8=>(dX (iM N Y o8) N (0,v1.1)).bind fun TV=>Sum.elim (fun l17=>some l17) (fun X3=>some X3) TV)
def jZ (N:Nat) (s7:ay) (i8:bD):Option (ay×Option Nat) :=
  (lG N i8.Err i8.Names).bind fun v12=>some (v12,some 0)
def qE (N:Nat) (g0:ai) (aQ:(List (Str×ah))) (aI:(List (Str×au))) (aO:(List (Str×Str))) (x1:GEvent):Option ((List (Str×ah))×ay) :=
  (rQ N x1.Person).bind fun v1=>bif (!v1) then ((lG N 4 ([]:(List Str))).bind fun v2=>some (aQ,v2)) else (bif (Ag .eql x1.Person ((jD (⟨0,[],0⟩:ah) aQ x1.Name).AU)) then ((lG N 26 ([]:(List Str))).bind fun v3=>some (aQ,v3)) else ((oU N g0.plan x1.Name).bind fun v4=>(pI N g0 aQ aI aO v4.1).bind fun v5=>(kW N (yl (jZ N) 1) ((⟨[],0⟩:ay),none) g0 aQ aI aO v5).bind fun VB=>KY VB (fun Ux=>(gK N g0 aQ aI aO x1.Name 2).bind fun v14=>some (v14,(⟨[],0⟩:ay))) (fun Ux=>some (aQ,Ux))))
def wW (N:Nat) (g0:ai) (aQ:(List (Str×ah))) (aI:(List (Str×au))) (aO:(List (Str×Str))) (x1:GEvent):Option ((List (Str×ah))×ay) :=
  (gK N g0 aQ aI aO x1.Name 3).bind fun v1=>some (v1,(⟨[],0⟩:ay))
def kZ (N:Nat) (x0:aH) (c0:aH):Option (Bool) :=
  (iZ N x0.Locks c0.Name).bind fun v1=>some v1
def pG (N:Nat) (g0:ai) (aQ:(List (Str×ah))) (aI:(List (Str×au))) (aO:(List (Str×Str))) (x1:(aH→Option Bool)) (s1:((List Str)×Int)):Option (((List Str)×Int) ⊕ (List Str)) :=
  bif (aG .lss s1.2 (List.length g0.plan.ak:Int)) then ((idx g0.plan.ak s1.2).bind fun v2=>(gW N g0 aQ aI aO v2.Name [2]).bind fun v3=>(bif v3 then (x1 v2) else some false).bind fun v4=>bif (v3&&v4) then ((app s1.1 [v2.Name]).bind fun v5=>some (.inl (v5,(IntKind.i64.wrap (s1.2+1))))) else (some (.inl (s1.1,(IntKind.i64.wrap (s1.2+1)))))) else (some (.inr s1.1))
def jJ (N:Nat) (g0:ai) (aQ:(List (Str×ah))) (aI:(List (Str×au))) (aO:(List (Str×Str))) (x1:(aH→Option Bool)):Option (List Str) :=
  (dX (pG N g0 aQ aI aO x1) N ([],0)).bind fun o8=>some o8
def lg (N:Nat) (x0:aH) (c0:aH):Option (Bool) :=
  some (((aG .eql x0.Kind 1)&&(Ag .eql x0.Space c0.Space))&&(Ag .neq x0.Name c0.Name))
def lm (N:Nat) (x0:Str) (c0:aH):Option (Bool) :=
  some (Ag .eql x0 c0.Space)
def pY (N:Nat) (x1:(Str→Option Bool)) (s2:(List Str)) (p3:(Str×Str)):Option (List Str) :=
  (x1 p3.2).bind fun v5=>bif v5 then ((app s2 [p3.1]).bind fun v6=>some v6) else (some s2)
def mr (N:Nat) (g0:ai) (aQ:(List (Str×ah))) (aI:(List (Str×au))) (aO:(List (Str×Str))) (x1:(Str→Option Bool)):Option (List Str) :=
  Jt aO fun q4p=>(Me (pY N x1) q4p []).bind fun s2=>(mV N s2).bind fun v8=>some v8
def qi (N:Nat) (g0:ai) (aQ:(List (Str×ah))) (aI:(List (Str×au))) (aO:(List (Str×Str))) (x1:GEvent):Option ((List (Str×ah))×ay) :=
  (oU N g0.plan x1.Name).bind fun v1=>(je N g0.plan v1.1.Space).bind fun v2=>((bif (aG .eql v1.1.Kind 5) then ((jJ N g0 aQ aI aO (fun y0=>kZ N y0 v1.1)).bind fun v3=>bif (aG .gtr (List.length v3:Int) 0) then ((lG N 20 v3).bind fun v4=>some (Sum.inr v4)) else (some (Sum.inl (⟨[],0⟩:ay)))) else ((bif (aG .eql v1.1.Kind 1) then (gW N g0 aQ aI aO v1.1.Name [2]) else some false).bind fun v6=>bif (((aG .eql v1.1.Kind 1)&&v6)&&v2.1.dD) then ((jJ N g0 aQ aI aO (fun y0=>lg N y0 v1.1)).bind fun v7=>(mr N g0 aQ aI aO (fun y0=>lm N y0 v1.1)).bind fun v8=>bif ((aG .eql (List.length v7:Int) 0)&&(aG .gtr (List.length v8:Int) 0)) then ((lG N 21 v8).bind fun v9=>some (Sum.inr v9)) else (some (Sum.inl (⟨[],0⟩:ay)))) else (some (Sum.inl (⟨[],0⟩:ay))))):Option (ay ⊕ ay)).bind fun VB=>Sum.elim (fun l15=>(gK N g0 aQ aI aO x1.Name 4).bind fun v17=>some (v17,(⟨[],0⟩:ay))) (fun r16=>some (aQ,r16)) VB
def xX (N:Nat) (g0:ai) (aQ:(List (Str×ah))) (aI:(List (Str×au))) (aO:(List (Str×Str))) (x1:GEvent):Option ((List (Str×ah))×ay) :=
  (gK N g0 aQ aI aO x1.Name 5).bind fun v1=>some (v1,(⟨[],0⟩:ay))
def uF (N:Nat) (g0:ai) (aQ:(List (Str×ah))) (aI:(List (Str×au))) (aO:(List (Str×Str))) (x1:GEvent):Option ((List (Str×au))×ay) :=
  (je N g0.plan x1.Space).bind fun v1=>bif (!v1.2) then ((lG N 6 ([]:(List Str))).bind fun v2=>some (aI,v2)) else (bif ((((aG .lss x1.qx 0)||(aG .gtr x1.qx 1000))||(aG .lss x1.IW 0))||(aG .gtr x1.IW 1000)) then ((lG N 2 ([]:(List Str))).bind fun v3=>some (aI,v3)) else (some ((uj aI x1.Space (⟨g0.now,x1.qx,x1.IW⟩:au)),(⟨[],0⟩:ay))))
def gX (N:Nat) (x0:aH) (c0:Str):Option (Bool) :=
  some ((aG .eql x0.Kind 1)&&(Ag .eql x0.Space c0))
def rO (N:Nat) (g0:ai) (aQ:(List (Str×ah))) (aI:(List (Str×au))) (aO:(List (Str×Str))) (x1:Str):Option Bool :=
  (jJ N g0 aQ aI aO (fun y0=>gX N y0 x1)).bind fun v1=>some (aG .gtr (List.length v1:Int) 0)
def qZ (N:Nat) (g0:ai) (aQ:(List (Str×ah))) (aI:(List (Str×au))) (aO:(List (Str×Str))) (x0:aH) (c1:dH):Option Bool :=
  (bif (aG .eql x0.Kind 3) then (tN N g0.plan x0.Space c1.Name) else some 0).bind fun v1=>some ((aG .eql x0.Kind 3)&&(aG .leq v1 1))
def jo (N:Nat) (g0:ai) (aQ:(List (Str×ah))) (aI:(List (Str×au))) (aO:(List (Str×Str))) (qh:dH) (s1:((List Str)×Int)):Option (((List Str)×Int) ⊕ (List Str)) :=
  bif (aG .lss s1.2 (List.length g0.plan.ak:Int)) then ((idx g0.plan.ak s1.2).bind fun v2=>(gW N g0 aQ aI aO v2.Name [2]).bind fun v3=>(bif v3 then (qZ N g0 aQ aI aO v2 qh) else some false).bind fun v4=>bif (v3&&v4) then ((app s1.1 [v2.Name]).bind fun v5=>some (.inl (v5,(IntKind.i64.wrap (s1.2+1))))) else (some (.inl (s1.1,(IntKind.i64.wrap (s1.2+1)))))) else (some (.inr s1.1))
def lU (N:Nat) (g0:ai) (aQ:(List (Str×ah))) (aI:(List (Str×au))) (aO:(List (Str×Str))) (qh:dH):Option (List Str) :=
  (dX (jo N g0 aQ aI aO qh) N ([],0)).bind fun o8=>some o8
def sH (N:Nat) (g0:ai) (aQ:(List (Str×ah))) (aI:(List (Str×au))) (aO:(List (Str×Str))) (x1:GEvent):Option ((List (Str×Str))×ay) :=
  (rQ N x1.Person).bind fun v1=>bif (!v1) then ((lG N 4 ([]:(List Str))).bind fun v2=>some (aO,v2)) else ((je N g0.plan x1.Space).bind fun v3=>bif (!v3.2) then ((lG N 6 ([]:(List Str))).bind fun v4=>some (aO,v4)) else (bif (qM aO x1.Person) then ((lG N 18 ([]:(List Str))).bind fun v5=>some (aO,v5)) else ((bif v3.1.dD then (rO N g0 aQ aI aO v3.1.Name) else some false).bind fun v6=>bif (v3.1.dD&&(!v6)) then ((lG N 21 ([]:(List Str))).bind fun v7=>some (aO,v7)) else ((lU N g0 aQ aI aO v3.1).bind fun v8=>bif (aG .gtr (List.length v8:Int) 0) then ((lG N 17 v8).bind fun v9=>some (aO,v9)) else (some ((uj aO x1.Person v3.1.Name),(⟨[],0⟩:ay)))))))
def sJ (N:Nat) (g0:ai) (aQ:(List (Str×ah))) (aI:(List (Str×au))) (aO:(List (Str×Str))) (x1:GEvent):Option ((List (Str×Str))×ay) :=
  (rQ N x1.Person).bind fun v1=>bif (!v1) then ((lG N 4 ([]:(List Str))).bind fun v2=>some (aO,v2)) else (bif (!(qM aO x1.Person)) then ((lG N 6 ([]:(List Str))).bind fun v3=>some (aO,v3)) else (some ((Jg aO x1.Person),(⟨[],0⟩:ay))))
def rf (N:Nat) (g0:ai) (aQ:(List (Str×ah))) (aI:(List (Str×au))) (aO:(List (Str×Str))) (x0:aH) (c1:GEvent):Option Bool :=
  (bif (aG .neq x0.Kind 5) then (tN N g0.plan x0.Space c1.Space) else some 0).bind fun v1=>some ((aG .neq x0.Kind 5)&&(aG .leq v1 1))
def jq (N:Nat) (g0:ai) (aQ:(List (Str×ah))) (aI:(List (Str×au))) (aO:(List (Str×Str))) (qh:GEvent) (s1:((List Str)×Int)):Option (((List Str)×Int) ⊕ (List Str)) :=
  bif (aG .lss s1.2 (List.length g0.plan.ak:Int)) then ((idx g0.plan.ak s1.2).bind fun v2=>(gW N g0 aQ aI aO v2.Name [2]).bind fun v3=>(bif v3 then (rf N g0 aQ aI aO v2 qh) else some false).bind fun v4=>bif (v3&&v4) then ((app s1.1 [v2.Name]).bind fun v5=>some (.inl (v5,(IntKind.i64.wrap (s1.2+1))))) else (some (.inl (s1.1,(IntKind.i64.wrap (s1.2+1)))))) else (some (.inr s1.1))
def lV (N:Nat) (g0:ai) (aQ:(List (Str×ah))) (aI:(List (Str×au))) (aO:(List (Str×Str))) (qh:GEvent):Option (List Str) :=
  (dX (jq N g0 aQ aI aO qh) N ([],0)).bind fun o8=>some o8
def nM (N:Nat) (g0:ai) (aI:(List (Str×au))) (aO:(List (Str×Str))) (v3:(List Str)) (s4:(Int×(List (Str×ah)))):Option ((Int×(List (Str×ah))) ⊕ (List (Str×ah))) :=
  bif (aG .lss s4.1 (List.length v3:Int)) then ((idx v3 s4.1).bind fun v5=>(gK N g0 s4.2 aI aO v5 3).bind fun v6=>some (.inl ((IntKind.i64.wrap (s4.1+1)),v6))) else (some (.inr s4.2))
def sK (N:Nat) (g0:ai) (aQ:(List (Str×ah))) (aI:(List (Str×au))) (aO:(List (Str×Str))) (x1:GEvent):Option ((List (Str×ah))×ay) :=
  (je N g0.plan x1.Space).bind fun v1=>bif (!v1.2) then ((lG N 6 ([]:(List Str))).bind fun v2=>some (aQ,v2)) else ((lV N g0 aQ aI aO x1).bind fun v3=>(dX (nM N g0 aI aO v3) N (0,aQ)).bind fun o8=>some (o8,(⟨[],0⟩:ay)))
def rP (N:Nat) (g0:ai) (aQ:(List (Str×ah))) (aI:(List (Str×au))) (aO:(List (Str×Str))) (x1:GEvent):Option ((List (Str×ah))×ay) :=
  (rQ N x1.Person).bind fun v1=>bif (!v1) then ((lG N 4 ([]:(List Str))).bind fun v2=>some (aQ,v2)) else (bif ((aG .leq x1.To ((jD (⟨0,[],0⟩:ah) aQ x1.Name).zF))||(aG .gtr x1.To 1000000)) then ((lG N 2 ([]:(List Str))).bind fun v3=>some (aQ,v3)) else (some ((uj aQ x1.Name ({ (jD (⟨0,[],0⟩:ah) aQ x1.Name) with zF:=x1.To }:ah)),(⟨[],0⟩:ay))))
def Ia (N:Nat) (g0:ai) (aQ:(List (Str×ah))) (aI:(List (Str×au))) (aO:(List (Str×Str))) (n:(Option Nat)) (x1:GEvent):Option ((List (Str×ah))×(List (Str×au))×(List (Str×Str))×ay) :=
  bif decide (n=some 125) then ((zi N g0 aQ aI aO x1).bind fun y=>some (aQ,aI,aO,y)) else (bif decide (n=some 126) then ((rq N g0 aQ aI aO x1).bind fun y=>some (y.1,aI,aO,y.2)) else (bif decide (n=some 127) then ((qE N g0 aQ aI aO x1).bind fun y=>some (y.1,aI,aO,y.2)) else (bif decide (n=some 128) then ((wW N g0 aQ aI aO x1).bind fun y=>some (y.1,aI,aO,y.2)) else (bif decide (n=some 129) then ((qi N g0 aQ aI aO x1).bind fun y=>some (y.1,aI,aO,y.2)) else (bif decide (n=some 130) then ((xX N g0 aQ aI aO x1).bind fun y=>some (y.1,aI,aO,y.2)) else (bif decide (n=some 131) then ((uF N g0 aQ aI aO x1).bind fun y=>some (aQ,y.1,aO,y.2)) else (bif decide (n=some 132) then ((sH N g0 aQ aI aO x1).bind fun y=>some (aQ,aI,y.1,y.2)) else (bif decide (n=some 133) then ((sJ N g0 aQ aI aO x1).bind fun y=>some (aQ,aI,y.1,y.2)) else (bif decide (n=some 134) then ((sK N g0 aQ aI aO x1).bind fun y=>some (y.1,aI,aO,y.2)) else (bif decide (n=some 135) then ((rP N g0 aQ aI aO x1).bind fun y=>some (y.1,aI,aO,y.2)) else (none)))))))))))
def pq (N:Nat) (g0:ai) (aQ:(List (Str×ah))) (aI:(List (Str×au))) (aO:(List (Str×Str))) (x1:GEvent):Option (ai×(List (Str×ah))×(List (Str×au))×(List (Str×Str))×(List Str)×Int) :=
  (yJ N).bind fun v1=>(bif (!((aG .lss x1.Op 0)||(aG .geq x1.Op (List.length v1:Int)))) then (xZ N x1.At) else some false).bind fun v2=>bif (((aG .lss x1.Op 0)||(aG .geq x1.Op (List.length v1:Int)))||(!v2)) then (some (g0,aQ,aI,aO,[],2)) else (bif (aG .lss x1.At g0.now) then (some (g0,aQ,aI,aO,[],10)) else ((nG N ({ g0 with now:=x1.At }:ai) aQ aI aO).bind fun v3=>(idx v1 x1.Op).bind fun v4=>((bif (!(List.isEmpty v4.states)) then ((oU N (({ g0 with now:=x1.At }:ai).plan) x1.Name).bind fun v5=>bif (!v5.2) then (some (Sum.inr ([],6))) else ((gW N ({ g0 with now:=x1.At }:ai) v3 aI aO x1.Name v4.states).bind fun v6=>bif (!v6) then (some (Sum.inr ([],18))) else (some (Sum.inl ())))) else (some (Sum.inl ()))):Option (Unit ⊕ ((List Str)×Int))).bind fun Sl=>Sum.elim (fun l12=>(Ia N ({ g0 with now:=x1.At }:ai) v3 aI aO v4.Ri x1).bind fun v14=>bif (aG .neq v14.2.2.2.e 0) then (some (({ g0 with now:=x1.At }:ai),v14.1,v14.2.1,v14.2.2.1,v14.2.2.2.names,v14.2.2.2.e)) else ((nG N ({ g0 with now:=x1.At }:ai) v14.1 v14.2.1 v14.2.2.1).bind fun v15=>(app (({ g0 with now:=x1.At }:ai).done) [x1]).bind fun v16=>some (({ ({ g0 with now:=x1.At }:ai) with done:=v16 }:ai),v15,v14.2.1,v14.2.2.1,[],0))) (fun r13=>some (({ g0 with now:=x1.At }:ai),v3,aI,aO,r13.1,r13.2)) Sl))
def wz (N:Nat):Option (Bool) :=
  (Ef N).bind fun v1=>(Gu N v1 ([100,101,99,107]:Str) ([104,111,108,100]:Str)).bind fun v2=>(wJ N v1).bind fun v3=>PN v3 (fun Xd=>(zh N (none:(Option (ai×Value×Value×Value))) (⟨0,1,([119,101,108,100]:Str),[],([97,110,110]:Str),0,0,0⟩:GEvent)).bind fun v4=>(zh N (none:(Option (ai×Value×Value×Value))) (⟨0,2,([119,101,108,100]:Str),[],([98,111,98]:Str),0,0,0⟩:GEvent)).bind fun v5=>(bif (((((aG .eql v2.2 0)&&(aG .eql v2.1 2))&&(aG .eql Xd 0))&&(aG .eql v4.2 0))&&(aG .eql v5.2 21)) then (qA N v5.1 [([116,97,110,107]:Str)]) else some false).bind fun v6=>some ((((((aG .eql v2.2 0)&&(aG .eql v2.1 2))&&(aG .eql Xd 0))&&(aG .eql v4.2 0))&&(aG .eql v5.2 21))&&v6)) (fun xU Xd=>(pq N xU.1 xU.2.1 xU.2.2.1 xU.2.2.2 (⟨0,1,([119,101,108,100]:Str),[],([97,110,110]:Str),0,0,0⟩:GEvent)).bind fun v12=>(pq N v12.1 v12.2.1 v12.2.2.1 v12.2.2.2.1 (⟨0,2,([119,101,108,100]:Str),[],([98,111,98]:Str),0,0,0⟩:GEvent)).bind fun v13=>(bif (((((aG .eql v2.2 0)&&(aG .eql v2.1 2))&&(aG .eql Xd 0))&&(aG .eql v12.2.2.2.2.2 0))&&(aG .eql v13.2.2.2.2.2 21)) then (qA N v13.2.2.2.2.1 [([116,97,110,107]:Str)]) else some false).bind fun v14=>some ((((((aG .eql v2.2 0)&&(aG .eql v2.1 2))&&(aG .eql Xd 0))&&(aG .eql v12.2.2.2.2.2 0))&&(aG .eql v13.2.2.2.2.2 21))&&v14))
def uU (N:Nat) (x0:GPermitPlan) (s4:(af×Int)):Option ((af×Int) ⊕ af) :=
  bif (aG .lss s4.2 (List.length x0.ak:Int)) then ((idx x0.ak s4.2).bind fun v5=>(app s4.1.To [v5.To]).bind fun v6=>some (.inl (({ s4.1 with To:=v6 }:af),(IntKind.i64.wrap (s4.2+1))))) else (some (.inr s4.1))
def DR (N:Nat) (x0:GPermitPlan):Option (af) :=
  (mk 0 (List.length x0.ak:Int) (List.length x0.ak:Int)).bind fun v1=>(mk [] (List.length x0.ak:Int) (List.length x0.ak:Int)).bind fun v2=>(mk (⟨false,0,0,0⟩:dQ) (List.length x0.bM:Int) (List.length x0.bM:Int)).bind fun v3=>(dX (uU N x0) N ((⟨x0,0,v1,v2,[],v3,[]⟩:af),0)).bind fun o8=>some o8
def mG (N:Nat) (x0:Int):Option (bg) :=
  some (⟨x0,[]⟩:bg)
def um (N:Nat) (x0:(List Int)):Option ((List Int)) :=
  (app ([]:(List Int)) x0).bind fun v1=>some v1
def lX (N:Nat) (x0:af):Option (af) :=
  (um N x0.cO).bind fun v1=>(app ([]:(List Str)) (({ x0 with cO:=v1 }:af).By)).bind fun v2=>(um N (({ ({ x0 with cO:=v1 }:af) with By:=v2 }:af).To)).bind fun v3=>(app ([]:(List dQ)) (({ ({ ({ x0 with cO:=v1 }:af) with By:=v2 }:af) with To:=v3 }:af).Tests)).bind fun v4=>(app ([]:(List eU)) (({ ({ ({ ({ x0 with cO:=v1 }:af) with By:=v2 }:af) with To:=v3 }:af) with Tests:=v4 }:af).oV)).bind fun v5=>some ({ ({ ({ ({ ({ x0 with cO:=v1 }:af) with By:=v2 }:af) with To:=v3 }:af) with Tests:=v4 }:af) with oV:=v5 }:af)
def yG (N:Nat) (x0:dH) (x1:Str) (s1:Int):Option (Int ⊕ (Unit ⊕ Bool)) :=
  bif (aG .lss s1 (List.length x0.Next:Int)) then ((idx x0.Next s1).bind fun v2=>bif (Ag .eql v2 x1) then (some (.inr (Sum.inr true))) else (some (.inl (IntKind.i64.wrap (s1+1))))) else (some (.inr (Sum.inl ())))
def zN (N:Nat) (x0:dH) (x1:Str):Option (Bool) :=
  (dX (yG N x0 x1) N 0).bind fun o5=>Sum.elim (fun l7=>some false) (fun r8=>some r8) o5
def nI (N:Nat) (x0:GPermitPlan) (x1:Str) (x2:Str):Option (Int) :=
  bif (Ag .eql x1 x2) then (some 0) else ((jh N x0 x1).bind fun v1=>(idx x0.bM v1).bind fun v2=>(zN N v2 x2).bind fun v3=>(bif (!v3) then (jh N x0 x2) else some 0).bind fun v4=>(bif (!v3) then (idx x0.bM v4) else some (⟨[],false,[]⟩:dH)).bind fun v5=>(bif (!v3) then (zN N v5 x1) else some false).bind fun v6=>bif (v3||v6) then (some 1) else (some 2))
def rG (N:Nat) (x0:GPermitPlan) (v1:aH) (s3:((List Int)×Int)):Option (((List Int)×Int) ⊕ (List Int)) :=
  bif ((aG .lss s3.2 (List.length x0.bM:Int))&&(aG .eql v1.Kind 0)) then ((idx x0.bM s3.2).bind fun v4=>(nI N x0 v1.Space v4.Name).bind fun v5=>bif (aG .eql v5 1) then ((app s3.1 [s3.2]).bind fun v6=>some (.inl (v6,(IntKind.i64.wrap (s3.2+1))))) else (some (.inl (s3.1,(IntKind.i64.wrap (s3.2+1)))))) else (some (.inr s3.1))
def yH (N:Nat) (x0:GPermitPlan) (x1:Int):Option ((List Int)) :=
  (idx x0.ak x1).bind fun v1=>bif (((aG .neq v1.Kind 0)&&(aG .neq v1.Kind 1))&&(aG .neq v1.Kind 2)) then (some []) else ((jh N x0 v1.Space).bind fun v2=>(dX (rG N x0 v1) N ([v2],0)).bind fun o9=>some o9)
def nT (N:Nat) (x0:af) (x1:Int) (x2:Bool):Option (Bool) :=
  (idx x0.P.bM x1).bind fun v1=>bif (!v1.dD) then (some true) else ((idx x0.Tests x1).bind fun v2=>bif (((((!v2.Done)||(aG .gtr (IntKind.i64.wrap (x0.Now - v2.At)) x0.P.gB))||(aG .lss v2.qx 195))||(aG .gtr v2.qx 235))||(aG .gtr v2.IW 50)) then (some false) else (some ((!x2)||(aG .leq v2.IW 10))))
def mg (N:Nat) (x0:af) (x1:Int) (v1:(List Int)) (s2:((List Str)×Int)):Option (((List Str)×Int) ⊕ (List Str)) :=
  bif (aG .lss s2.2 (List.length v1:Int)) then ((idx v1 s2.2).bind fun v3=>(idx x0.P.ak x1).bind fun v4=>(nT N x0 v3 (aG .eql v4.Kind 0)).bind fun v5=>bif (!v5) then ((idx v1 s2.2).bind fun v6=>(idx x0.P.bM v6).bind fun v7=>(app s2.1 [v7.Name]).bind fun v8=>some (.inl (v8,(IntKind.i64.wrap (s2.2+1))))) else (some (.inl (s2.1,(IntKind.i64.wrap (s2.2+1)))))) else (some (.inr s2.1))
def oq (N:Nat) (x0:af) (x1:Int):Option ((List Str)) :=
  (yH N x0.P x1).bind fun v1=>(dX (mg N x0 x1 v1) N ([],0)).bind fun o11=>some o11
def lF (N:Nat) (x0:af) (v1:aH) (s2:((List Str)×Int)):Option (((List Str)×Int) ⊕ (List Str)) :=
  bif (aG .lss s2.2 (List.length v1.Locks:Int)) then ((idx v1.Locks s2.2).bind fun v3=>(qc N x0.P v3).bind fun v4=>(idx x0.cO v4).bind fun v5=>bif (aG .neq v5 2) then ((idx v1.Locks s2.2).bind fun v6=>(app s2.1 [v6]).bind fun v7=>some (.inl (v7,(IntKind.i64.wrap (s2.2+1))))) else (some (.inl (s2.1,(IntKind.i64.wrap (s2.2+1)))))) else (some (.inr s2.1))
def nR (N:Nat) (x0:af) (x1:Int):Option ((List Str)) :=
  (idx x0.P.ak x1).bind fun v1=>(dX (lF N x0 v1) N ([],0)).bind fun Sl=>some Sl
def nC (N:Nat) (v1:af) (s16:(Bool×Int×(List Int))):Option ((Bool×Int×(List Int)) ⊕ (Bool×(List Int))) :=
  bif (aG .lss s16.2.1 (List.length s16.2.2:Int)) then ((idx s16.2.2 s16.2.1).bind fun v17=>(bif (aG .eql v17 2) then (oq N ({ v1 with cO:=s16.2.2 }:af) s16.2.1) else some []).bind fun v18=>(bif (aG .eql v17 2) then (nR N ({ v1 with cO:=s16.2.2 }:af) s16.2.1) else some []).bind fun v19=>bif ((aG .eql v17 2)&&(aG .gtr (IntKind.i64.wrap ((List.length v18:Int)+(List.length v19:Int))) 0)) then ((idx s16.2.2 s16.2.1).bind fun v20=>some (.inl (true,(IntKind.i64.wrap (s16.2.1+1)),(List.set s16.2.2 (Int.toNat s16.2.1) 3)))) else (some (.inl (s16.1,(IntKind.i64.wrap (s16.2.1+1)),s16.2.2)))) else (some (.inr (s16.1,s16.2.2)))
def oz (N:Nat) (v1:af) (s15:(Bool×(List Int))):Option ((Bool×(List Int)) ⊕ (List Int)) :=
  bif s15.1 then ((dX (nC N v1) N (false,0,s15.2)).bind fun o23=>some (.inl (o23.1,o23.2))) else (some (.inr s15.2))
def ny (N:Nat) (v1:af) (s7:(Int×(List Int))):Option ((Int×(List Int)) ⊕ (List Int)) :=
  bif (aG .lss s7.1 (List.length s7.2:Int)) then ((idx s7.2 s7.1).bind fun v8=>(bif (aG .leq v8 3) then (idx v1.To s7.1) else some 0).bind fun v9=>bif ((aG .leq v8 3)&&(aG .leq v9 v1.Now)) then ((idx s7.2 s7.1).bind fun v10=>some (.inl ((IntKind.i64.wrap (s7.1+1)),(List.set s7.2 (Int.toNat s7.1) 6)))) else (some (.inl ((IntKind.i64.wrap (s7.1+1)),s7.2)))) else (some (.inr s7.2))
def qw (N:Nat) (x0:af):Option (af) :=
  (lX N x0).bind fun v1=>(dX (ny N v1) N (0,v1.cO)).bind fun VB=>(dX (oz N v1) N (true,VB)).bind fun Ox=>some ({ v1 with cO:=Ox }:af)
def sG (N:Nat) (x0:af) (x1:Str) (s1:Int):Option (Int ⊕ (Unit ⊕ Int)) :=
  bif (aG .lss s1 (List.length x0.oV:Int)) then ((idx x0.oV s1).bind fun v2=>bif (Ag .eql v2.Name x1) then (some (.inr (Sum.inr s1))) else (some (.inl (IntKind.i64.wrap (s1+1))))) else (some (.inr (Sum.inl ())))
def sF (N:Nat) (x0:af) (x1:Str):Option (Int) :=
  (dX (sG N x0 x1) N 0).bind fun o5=>Sum.elim (fun l7=>some (-1)) (fun r8=>some r8) o5
def kV (N:Nat) (x0:af) (x1:Str) (x2:Int) (s1:Int):Option (Int ⊕ (Unit ⊕ Bool)) :=
  bif (aG .lss s1 (List.length x0.cO:Int)) then ((idx x0.P.ak s1).bind fun v2=>(bif (aG .neq s1 x2) then (idx x0.cO s1) else some 0).bind fun v3=>bif ((((aG .neq s1 x2)&&(aG .eql v3 2))&&(aG .eql v2.Kind 1))&&(Ag .eql v2.Space x1)) then (some (.inr (Sum.inr true))) else (some (.inl (IntKind.i64.wrap (s1+1))))) else (some (.inr (Sum.inl ())))
def iP (N:Nat) (x0:af) (x1:Str) (x2:Int):Option (Bool) :=
  (dX (kV N x0 x1 x2) N 0).bind fun o6=>Sum.elim (fun l8=>some false) (fun r9=>some r9) o6
def mO (N:Nat) (x0:af) (x1:GEvent) (s29:Int):Option (Int ⊕ Int) :=
  (bif (aG .lss s29 (List.length x0.oV:Int)) then (idx x0.oV s29) else some (⟨[],[]⟩:eU)).bind fun v30=>bif ((aG .lss s29 (List.length x0.oV:Int))&&(Ag .lss v30.Name x1.Person)) then (some (.inl (IntKind.i64.wrap (s29+1)))) else (some (.inr s29))
def mM (N:Nat) (x0:af) (x1:GEvent) (s20:((List Str)×Int)):Option (((List Str)×Int) ⊕ (List Str)) :=
  bif (aG .lss s20.2 (List.length x0.cO:Int)) then ((idx x0.P.ak s20.2).bind fun v21=>(idx x0.cO s20.2).bind fun v22=>(bif ((aG .eql v22 2)&&(aG .eql v21.Kind 3)) then (nI N x0.P v21.Space x1.Space) else some 0).bind fun v23=>bif (((aG .eql v22 2)&&(aG .eql v21.Kind 3))&&(aG .leq v23 1)) then ((app s20.1 [v21.Name]).bind fun v24=>some (.inl (v24,(IntKind.i64.wrap (s20.2+1))))) else (some (.inl (s20.1,(IntKind.i64.wrap (s20.2+1)))))) else (some (.inr s20.1))
def jH (N:Nat) (x0:af) (x1:GEvent) (s44:(Int×(List Int))):Option ((Int×(List Int)) ⊕ (List Int)) :=
  bif (aG .lss s44.1 (List.length s44.2:Int)) then ((idx x0.P.ak s44.1).bind fun v45=>(idx s44.2 s44.1).bind fun v46=>(bif ((aG .eql v46 2)&&(aG .neq v45.Kind 5)) then (nI N x0.P v45.Space x1.Space) else some 0).bind fun v47=>bif (((aG .eql v46 2)&&(aG .neq v45.Kind 5))&&(aG .leq v47 1)) then ((idx s44.2 s44.1).bind fun v48=>some (.inl ((IntKind.i64.wrap (s44.1+1)),(List.set s44.2 (Int.toNat s44.1) 3)))) else (some (.inl ((IntKind.i64.wrap (s44.1+1)),s44.2)))) else (some (.inr s44.2))
def jc (N:Nat) (x0:af) (x1:GEvent):Option (af×bg) :=
  (bif ((aG .eql x1.Op 8)||(aG .eql x1.Op 9)) then (x9 N x1.Person) else some false).bind fun v1=>bif (((aG .eql x1.Op 8)||(aG .eql x1.Op 9))&&(!v1)) then ((mG N 4).bind fun v2=>some (x0,v2)) else (bif (aG .eql x1.Op 9) then ((sF N x0 x1.Person).bind fun v3=>bif (aG .lss v3 0) then ((mG N 6).bind fun v4=>some (x0,v4)) else ((OC x0.oV 0 v3).bind fun v5=>(app ([]:(List eU)) v5).bind fun v6=>(OC x0.oV (IntKind.i64.wrap (v3+1)) (List.length x0.oV:Int)).bind fun v7=>(app v6 v7).bind fun v8=>some (({ ({ x0 with oV:=v8 }:af) with cO:=x0.cO,By:=x0.By,To:=x0.To,Tests:=x0.Tests }:af),(⟨0,[]⟩:bg)))) else ((jh N x0.P x1.Space).bind fun v10=>bif (aG .lss v10 0) then ((mG N 6).bind fun v11=>some (x0,v11)) else (bif (aG .eql x1.Op 7) then (bif ((((aG .lss x1.qx 0)||(aG .gtr x1.qx 1000))||(aG .lss x1.IW 0))||(aG .gtr x1.IW 1000)) then ((mG N 2).bind fun v12=>some (x0,v12)) else ((idx x0.Tests v10).bind fun v13=>some (({ x0 with Tests:=(List.set x0.Tests (Int.toNat v10) (⟨true,x0.Now,x1.qx,x1.IW⟩:dQ)) }:af),(⟨0,[]⟩:bg)))) else (bif (aG .eql x1.Op 8) then ((sF N x0 x1.Person).bind fun v15=>bif (aG .geq v15 0) then ((mG N 18).bind fun v16=>some (x0,v16)) else ((idx x0.P.bM v10).bind fun v17=>(bif v17.dD then (iP N x0 x1.Space (-1)) else some false).bind fun v18=>bif (v17.dD&&(!v18)) then ((mG N 21).bind fun v19=>some (x0,v19)) else ((dX (mM N x0 x1) N ([],0)).bind fun Ox=>bif (aG .gtr (List.length Ox:Int) 0) then (some (x0,(⟨17,Ox⟩:bg))) else ((dX (mO N x0 x1) N 0).bind fun o32=>(OC x0.oV 0 o32).bind fun v34=>(app ([]:(List eU)) v34).bind fun v35=>(app v35 [(⟨x1.Person,x1.Space⟩:eU)]).bind fun v36=>(OC x0.oV o32 (List.length x0.oV:Int)).bind fun v37=>(app v36 v37).bind fun v38=>some (({ ({ x0 with oV:=v38 }:af) with cO:=x0.cO,By:=x0.By,To:=x0.To,Tests:=x0.Tests }:af),(⟨0,[]⟩:bg)))))) else (bif (aG .eql x1.Op 10) then ((dX (jH N x0 x1) N (0,x0.cO)).bind fun o51=>some (({ x0 with cO:=o51 }:af),(⟨0,[]⟩:bg))) else (some (x0,(⟨0,[]⟩:bg))))))))
def zB (N:Nat) (x0:Int) (x1:Int):Option (Bool) :=
  bif (aG .eql x0 1) then (some (aG .eql x1 0)) else (bif (aG .eql x0 2) then (some (aG .eql x1 1)) else (bif (aG .eql x0 3) then (some (aG .eql x1 2)) else (bif (aG .eql x0 4) then (some (aG .eql x1 3)) else (bif (aG .eql x0 5) then (some ((aG .eql x1 2)||(aG .eql x1 3))) else (bif (aG .eql x0 6) then (some ((aG .eql x1 0)||(aG .eql x1 1))) else (some (((aG .eql x1 1)||(aG .eql x1 2))||(aG .eql x1 3))))))))
def vO (N:Nat) (x0:GPermitPlan) (v1:aH) (v2:aH) (v3:Int) (s4:Int):Option (Int ⊕ (Unit ⊕ Bool)) :=
  bif (aG .lss s4 (List.length x0.dY:Int)) then ((idx x0.dY s4).bind fun v5=>bif ((((aG .eql v5.A v1.Kind)&&(aG .eql v5.B v2.Kind))||((aG .eql v5.A v2.Kind)&&(aG .eql v5.B v1.Kind)))&&(aG .leq v3 v5.Reach)) then (some (.inr (Sum.inr true))) else (some (.inl (IntKind.i64.wrap (s4+1))))) else (some (.inr (Sum.inl ())))
def wC (N:Nat) (x0:GPermitPlan) (x1:Int) (x2:Int):Option (Bool) :=
  bif (aG .eql x1 x2) then (some false) else ((idx x0.ak x1).bind fun v1=>(idx x0.ak x2).bind fun v2=>(nI N x0 v1.Space v2.Space).bind fun v3=>(dX (vO N x0 v1 v2 v3) N 0).bind fun o8=>Sum.elim (fun l10=>some false) (fun r11=>some r11) o8)
def nD (N:Nat) (x0:af) (x1:Str) (x2:Int) (s1:((List Str)×Int)):Option (((List Str)×Int) ⊕ (List Str)) :=
  bif (aG .lss s1.2 (List.length x0.oV:Int)) then ((idx x0.oV s1.2).bind fun v2=>(nI N x0.P v2.Space x1).bind fun v3=>bif (aG .leq v3 x2) then ((idx x0.oV s1.2).bind fun v4=>(app s1.1 [v4.Name]).bind fun v5=>some (.inl (v5,(IntKind.i64.wrap (s1.2+1))))) else (some (.inl (s1.1,(IntKind.i64.wrap (s1.2+1)))))) else (some (.inr s1.1))
def kQ (N:Nat) (x0:af) (x1:Str) (x2:Int):Option ((List Str)) :=
  (dX (nD N x0 x1 x2) N ([],0)).bind fun o8=>some o8
def kP (N:Nat) (x0:af) (x1:Int) (s11:((List Str)×Int)):Option (((List Str)×Int) ⊕ (List Str)) :=
  bif (aG .lss s11.2 (List.length x0.cO:Int)) then ((idx x0.cO s11.2).bind fun v12=>(bif (aG .eql v12 2) then (wC N x0.P x1 s11.2) else some false).bind fun v13=>bif ((aG .eql v12 2)&&v13) then ((idx x0.P.ak s11.2).bind fun v14=>(app s11.1 [v14.Name]).bind fun v15=>some (.inl (v15,(IntKind.i64.wrap (s11.2+1))))) else (some (.inl (s11.1,(IntKind.i64.wrap (s11.2+1)))))) else (some (.inr s11.1))
def mW (N:Nat) (x0:af) (x1:Int):Option ((List bD)) :=
  (idx x0.P.ak x1).bind fun v1=>((bif (aG .lss x0.Now v1.From) then ((app [] [(⟨2,[]⟩:bD)]).bind fun v2=>some v2) else (some [])):Option (List bD)).bind fun o4=>(((nR N x0 x1).bind fun v6=>bif (aG .gtr (List.length v6:Int) 0) then ((app o4 [(⟨18,v6⟩:bD)]).bind fun v7=>some v7) else (some o4)):Option (List bD)).bind fun o9=>(dX (kP N x0 x1) N ([],0)).bind fun YW=>((bif (aG .gtr (List.length YW:Int) 0) then ((app o9 [(⟨20,YW⟩:bD)]).bind fun v20=>some v20) else (some o9)):Option (List bD)).bind fun YN=>(((oq N x0 x1).bind fun v24=>bif (aG .gtr (List.length v24:Int) 0) then ((app YN [(⟨21,v24⟩:bD)]).bind fun v25=>some v25) else (some YN)):Option (List bD)).bind fun Ox=>(kQ N x0 v1.Space 1).bind fun v29=>bif ((aG .eql v1.Kind 3)&&(aG .gtr (List.length v29:Int) 0)) then ((app Ox [(⟨17,v29⟩:bD)]).bind fun v30=>some v30) else (some Ox)
def mX (N:Nat) (v1:af) (l17:(af×bg×(List Int)×(List Str)×(List Int)×(List dQ))) (v26:aH) (TW:((List Str)×Int)) (Y2:((List Str)×Int)):Option (((List Str)×Int) ⊕ (List Str)) :=
  (idx v1.P.ak TW.2).bind fun v43=>bif (aG .lss Y2.2 (List.length v43.Locks:Int)) then ((idx l17.2.2.1 TW.2).bind fun v44=>(bif (aG .eql v44 2) then (idx v1.P.ak TW.2) else some (⟨[],0,[],0,0,[]⟩:aH)).bind fun v45=>(bif (aG .eql v44 2) then (idx v45.Locks Y2.2) else some []).bind fun v46=>bif ((aG .eql v44 2)&&(Ag .eql v46 v26.Name)) then ((idx v1.P.ak TW.2).bind fun v47=>(app Y2.1 [v47.Name]).bind fun v48=>some (.inr v48)) else (some (.inl (Y2.1,(IntKind.i64.wrap (Y2.2+1)))))) else (some (.inr Y2.1))
def oh (N:Nat) (v1:af) (l17:(af×bg×(List Int)×(List Str)×(List Int)×(List dQ))) (v26:aH) (TW:((List Str)×Int)):Option (((List Str)×Int) ⊕ (List Str)) :=
  bif (aG .lss TW.2 (List.length l17.2.2.1:Int)) then ((dX (mX N v1 l17 v26 TW) N (TW.1,0)).bind fun o51=>some (.inl (o51,(IntKind.i64.wrap (TW.2+1))))) else (some (.inr TW.1))
def vN (N:Nat) (x0:af) (x1:GEvent):Option (af×bg) :=
  (lX N x0).bind fun v1=>((bif (aG .eql x1.Op 0) then (some (Sum.inr (v1,(⟨0,[]⟩:bg)))) else (((bif (aG .eql x1.Op 7) then (some (aG .eql x1.Op 7)) else (bif (aG .eql x1.Op 8) then (some (aG .eql x1.Op 8)) else (bif (aG .eql x1.Op 9) then (some (aG .eql x1.Op 9)) else (some (aG .eql x1.Op 10))))):Option Bool).bind fun Sl=>bif Sl then ((jc N v1 x1).bind fun v12=>some (Sum.inr (v12.1,v12.2))) else (some (Sum.inl ((⟨(⟨[],[],[],0⟩:GPermitPlan),0,[],[],[],[],[]⟩:af),(⟨0,[]⟩:bg),v1.cO,v1.By,v1.To,v1.Tests))))):Option ((af×bg×(List Int)×(List Str)×(List Int)×(List dQ)) ⊕ (af×bg))).bind fun TV=>Sum.elim (fun l17=>(qc N v1.P x1.Name).bind fun v19=>bif (aG .lss v19 0) then ((mG N 6).bind fun v20=>some (({ v1 with cO:=l17.2.2.1,By:=l17.2.2.2.1,To:=l17.2.2.2.2.1,Tests:=l17.2.2.2.2.2 }:af),v20)) else ((idx l17.2.2.1 v19).bind fun v21=>(zB N x1.Op v21).bind fun v22=>bif (!v22) then ((mG N 18).bind fun v23=>some (({ v1 with cO:=l17.2.2.1,By:=l17.2.2.2.1,To:=l17.2.2.2.2.1,Tests:=l17.2.2.2.2.2 }:af),v23)) else ((bif ((((aG .eql x1.Op 1)||(aG .eql x1.Op 2))||(aG .eql x1.Op 4))||(aG .eql x1.Op 11)) then (x9 N x1.Person) else some false).bind fun v24=>bif (((((aG .eql x1.Op 1)||(aG .eql x1.Op 2))||(aG .eql x1.Op 4))||(aG .eql x1.Op 11))&&(!v24)) then ((mG N 4).bind fun v25=>some (({ v1 with cO:=l17.2.2.1,By:=l17.2.2.2.1,To:=l17.2.2.2.2.1,Tests:=l17.2.2.2.2.2 }:af),v25)) else ((idx v1.P.ak v19).bind fun v26=>bif (aG .eql x1.Op 1) then ((idx l17.2.2.1 v19).bind fun v27=>(idx l17.2.2.2.1 v19).bind fun v28=>some (({ v1 with cO:=(List.set l17.2.2.1 (Int.toNat v19) 1),By:=(List.set l17.2.2.2.1 (Int.toNat v19) x1.Person),To:=l17.2.2.2.2.1,Tests:=l17.2.2.2.2.2 }:af),(⟨0,[]⟩:bg))) else (((bif (aG .eql x1.Op 2) then (some (aG .eql x1.Op 2)) else (some (aG .eql x1.Op 4))):Option Bool).bind fun o30=>bif o30 then ((idx l17.2.2.2.1 v19).bind fun v32=>bif (Ag .eql x1.Person v32) then ((mG N 26).bind fun v33=>some (({ v1 with cO:=l17.2.2.1,By:=l17.2.2.2.1,To:=l17.2.2.2.2.1,Tests:=l17.2.2.2.2.2 }:af),v33)) else ((mW N ({ v1 with cO:=l17.2.2.1,By:=l17.2.2.2.1,To:=l17.2.2.2.2.1,Tests:=l17.2.2.2.2.2 }:af) v19).bind fun v34=>bif (aG .gtr (List.length v34:Int) 0) then ((idx v34 0).bind fun v35=>(idx v34 0).bind fun v36=>some (({ v1 with cO:=l17.2.2.1,By:=l17.2.2.2.1,To:=l17.2.2.2.2.1,Tests:=l17.2.2.2.2.2 }:af),(⟨v35.Err,v36.Names⟩:bg))) else ((idx l17.2.2.1 v19).bind fun v37=>some (({ v1 with cO:=(List.set l17.2.2.1 (Int.toNat v19) 2),By:=l17.2.2.2.1,To:=l17.2.2.2.2.1,Tests:=l17.2.2.2.2.2 }:af),(⟨0,[]⟩:bg))))) else (bif (aG .eql x1.Op 3) then ((idx l17.2.2.1 v19).bind fun v40=>some (({ v1 with cO:=(List.set l17.2.2.1 (Int.toNat v19) 3),By:=l17.2.2.2.1,To:=l17.2.2.2.2.1,Tests:=l17.2.2.2.2.2 }:af),(⟨0,[]⟩:bg))) else (bif (aG .eql x1.Op 5) then ((dX (oh N v1 l17 v26) N ([],0)).bind fun o55=>bif ((aG .eql v26.Kind 5)&&(aG .gtr (List.length o55:Int) 0)) then (some (({ v1 with cO:=l17.2.2.1,By:=l17.2.2.2.1,To:=l17.2.2.2.2.1,Tests:=l17.2.2.2.2.2 }:af),(⟨20,o55⟩:bg))) else ((kQ N ({ v1 with cO:=l17.2.2.1,By:=l17.2.2.2.1,To:=l17.2.2.2.2.1,Tests:=l17.2.2.2.2.2 }:af) v26.Space 0).bind fun v57=>(bif (aG .eql v26.Kind 1) then (idx l17.2.2.1 v19) else some 0).bind fun v58=>(bif ((aG .eql v26.Kind 1)&&(aG .eql v58 2)) then (jh N v1.P v26.Space) else some 0).bind fun v59=>(bif ((aG .eql v26.Kind 1)&&(aG .eql v58 2)) then (idx v1.P.bM v59) else some (⟨[],false,[]⟩:dH)).bind fun v60=>(bif (((aG .eql v26.Kind 1)&&(aG .eql v58 2))&&v60.dD) then (iP N ({ v1 with cO:=l17.2.2.1,By:=l17.2.2.2.1,To:=l17.2.2.2.2.1,Tests:=l17.2.2.2.2.2 }:af) v26.Space v19) else some false).bind fun v61=>bif (((((aG .eql v26.Kind 1)&&(aG .eql v58 2))&&v60.dD)&&(!v61))&&(aG .gtr (List.length v57:Int) 0)) then (some (({ v1 with cO:=l17.2.2.1,By:=l17.2.2.2.1,To:=l17.2.2.2.2.1,Tests:=l17.2.2.2.2.2 }:af),(⟨21,v57⟩:bg))) else ((idx l17.2.2.1 v19).bind fun v62=>some (({ v1 with cO:=(List.set l17.2.2.1 (Int.toNat v19) 4),By:=l17.2.2.2.1,To:=l17.2.2.2.2.1,Tests:=l17.2.2.2.2.2 }:af),(⟨0,[]⟩:bg))))) else (bif (aG .eql x1.Op 6) then ((idx l17.2.2.1 v19).bind fun v66=>some (({ v1 with cO:=(List.set l17.2.2.1 (Int.toNat v19) 5),By:=l17.2.2.2.1,To:=l17.2.2.2.2.1,Tests:=l17.2.2.2.2.2 }:af),(⟨0,[]⟩:bg))) else (bif (aG .eql x1.Op 11) then ((idx l17.2.2.2.2.1 v19).bind fun v67=>bif ((aG .leq x1.To v67)||(aG .gtr x1.To 1000000)) then ((mG N 2).bind fun v68=>some (({ v1 with cO:=l17.2.2.1,By:=l17.2.2.2.1,To:=l17.2.2.2.2.1,Tests:=l17.2.2.2.2.2 }:af),v68)) else ((idx l17.2.2.2.2.1 v19).bind fun v69=>some (({ v1 with cO:=l17.2.2.1,By:=l17.2.2.2.1,To:=(List.set l17.2.2.2.2.1 (Int.toNat v19) x1.To),Tests:=l17.2.2.2.2.2 }:af),(⟨0,[]⟩:bg)))) else (some (({ v1 with cO:=l17.2.2.1,By:=l17.2.2.2.1,To:=l17.2.2.2.2.1,Tests:=l17.2.2.2.2.2 }:af),(⟨0,[]⟩:bg)))))))))))) (fun X3=>some (X3.1,X3.2)) TV
def xB (N:Nat) (x0:af) (x1:GEvent):Option (af×bg) :=
  bif ((((aG .lss x1.Op 0)||(aG .gtr x1.Op 11))||(aG .lss x1.At 0))||(aG .gtr x1.At 1000000)) then ((mG N 2).bind fun v1=>some (x0,v1)) else (bif (aG .lss x1.At x0.Now) then ((mG N 10).bind fun v2=>some (x0,v2)) else ((lX N x0).bind fun v3=>(qw N ({ v3 with Now:=x1.At }:af)).bind fun v4=>(vN N v4 x1).bind fun v5=>bif (aG .neq v5.2.E 0) then (some (v4,v5.2)) else ((qw N v5.1).bind fun v6=>some (v6,v5.2))))
def nP (N:Nat) (g0:ai) (aQ:(List (Str×ah))) (aI:(List (Str×au))) (aO:(List (Str×Str))) (x1:Str):Option (Int×Int) :=
  bif (!(qM aQ x1)) then (some (0,6)) else (some ((jD (⟨0,[],0⟩:ah) aQ x1).state,0))
def fA (N:Nat) (s2:(List bD)) (i3:bD):Option ((List bD)×Option Nat) :=
  (app s2 [i3]).bind fun v7=>some (v7,none)
def iU (N:Nat) (g0:ai) (aQ:(List (Str×ah))) (aI:(List (Str×au))) (aO:(List (Str×Str))) (qh:aH):Option (List bD) :=
  (kW N (yl (fA N) 0) (([]:(List bD)),none) g0 aQ aI aO qh).bind fun o8=>KY o8 (fun o8s=>some o8s) (fun o8s=>none)
def jL (N:Nat) (g0:ai) (aQ:(List (Str×ah))) (aI:(List (Str×au))) (aO:(List (Str×Str))) (XY:aH):Option (List bD) :=
  (iU N g0 aQ aI aO XY).bind fun v1=>some v1
def oL (N:Nat) (g0:ai) (aQ:(List (Str×ah))) (aI:(List (Str×au))) (aO:(List (Str×Str))) (x1:Str):Option ((List bD)×Int) :=
  (oU N g0.plan x1).bind fun v1=>bif (!v1.2) then (some ([],6)) else ((pI N g0 aQ aI aO v1.1).bind fun v2=>(jL N g0 aQ aI aO v2).bind fun v3=>some (v3,0))
def uJ (N:Nat) (x0:(List bD)) (x1:(List bD)) (s1:Int):Option (Int ⊕ (Unit ⊕ Bool)) :=
  bif (aG .lss s1 (List.length x0:Int)) then ((idx x0 s1).bind fun v2=>(idx x1 s1).bind fun v3=>(bif (!(aG .neq v2.Err v3.Err)) then (idx x0 s1) else some (⟨0,[]⟩:bD)).bind fun v4=>(bif (!(aG .neq v2.Err v3.Err)) then (idx x1 s1) else some (⟨0,[]⟩:bD)).bind fun v5=>(bif (!(aG .neq v2.Err v3.Err)) then (qA N v4.Names v5.Names) else some false).bind fun v6=>bif ((aG .neq v2.Err v3.Err)||(!v6)) then (some (.inr (Sum.inr false))) else (some (.inl (IntKind.i64.wrap (s1+1))))) else (some (.inr (Sum.inl ())))
def zx (N:Nat) (x0:(List bD)) (x1:(List bD)):Option (Bool) :=
  bif (aG .neq (List.length x0:Int) (List.length x1:Int)) then (some false) else ((dX (uJ N x0 x1) N 0).bind fun o9=>Sum.elim (fun l11=>some true) (fun r12=>some r12) o9)
def pO (N:Nat) (g0:ai) (aQ:(List (Str×ah))) (aI:(List (Str×au))) (aO:(List (Str×Str))) (x1:Str):Option (Bool×Bool×Int) :=
  (je N g0.plan x1).bind fun v1=>bif (!v1.2) then (some (false,false,6)) else ((qQ N g0 aQ aI aO x1).bind fun v2=>some (v2.1,v2.2,0))
def ng (N:Nat) (x0:Str) (c0:Str):Option (Bool) :=
  some (Ag .eql x0 c0)
def ou (N:Nat) (g0:ai) (aQ:(List (Str×ah))) (aI:(List (Str×au))) (aO:(List (Str×Str))) (x1:Str):Option (List Str) :=
  (mr N g0 aQ aI aO (fun y0=>ng N y0 x1)).bind fun v1=>some v1
def uD (N:Nat) (x0:af) (x1:Str):Option ((List Str)) :=
  (jh N x0.P x1).bind fun v1=>bif (aG .lss v1 0) then (some []) else ((kQ N x0 x1 0).bind fun v2=>some v2)
def pR (N:Nat) (x0:aH):Option (Bool) :=
  some true
def pU (N:Nat) (g0:ai) (aQ:(List (Str×ah))) (aI:(List (Str×au))) (aO:(List (Str×Str))):Option (List Str) :=
  (jJ N g0 aQ aI aO (fun y0=>pR N y0)).bind fun v1=>some v1
def qO (N:Nat) (x0:af) (s1:((List Str)×Int)):Option (((List Str)×Int) ⊕ (List Str)) :=
  bif (aG .lss s1.2 (List.length x0.cO:Int)) then ((idx x0.cO s1.2).bind fun v2=>bif (aG .eql v2 2) then ((idx x0.P.ak s1.2).bind fun v3=>(app s1.1 [v3.Name]).bind fun v4=>some (.inl (v4,(IntKind.i64.wrap (s1.2+1))))) else (some (.inl (s1.1,(IntKind.i64.wrap (s1.2+1)))))) else (some (.inr s1.1))
def rD (N:Nat) (x0:af):Option ((List Str)) :=
  (dX (qO N x0) N ([],0)).bind fun o7=>some o7
def uZ (N:Nat) (g0:ai) (aQ:(List (Str×ah))) (aI:(List (Str×au))) (x1:Str) (x2:(List Int)):Option Bool :=
  (pK N x2 ((jD (⟨0,[],0⟩:ah) aQ x1).state)).bind fun v1=>some v1
def nY (N:Nat) (g0:ai) (aQ:(List (Str×ah))) (aI:(List (Str×au))) (x1:(aH→Option Bool)) (s1:((List Str)×Int)):Option (((List Str)×Int) ⊕ (List Str)) :=
  bif (aG .lss s1.2 (List.length g0.plan.ak:Int)) then ((idx g0.plan.ak s1.2).bind fun v2=>(uZ N g0 aQ aI v2.Name [2]).bind fun v3=>(bif v3 then (x1 v2) else some false).bind fun v4=>bif (v3&&v4) then ((app s1.1 [v2.Name]).bind fun v5=>some (.inl (v5,(IntKind.i64.wrap (s1.2+1))))) else (some (.inl (s1.1,(IntKind.i64.wrap (s1.2+1)))))) else (some (.inr s1.1))
def qY (N:Nat) (g0:ai) (aQ:(List (Str×ah))) (aI:(List (Str×au))) (x1:(aH→Option Bool)):Option (List Str) :=
  (dX (nY N g0 aQ aI x1) N ([],0)).bind fun o8=>some o8
def qy (N:Nat) (g0:ai) (aQ:(List (Str×ah))) (aI:(List (Str×au))) (x1:Str):Option Bool :=
  (qY N g0 aQ aI (fun y0=>gX N y0 x1)).bind fun v1=>some (aG .gtr (List.length v1:Int) 0)
def qP (N:Nat) (g0:ai) (aQ:(List (Str×ah))) (aI:(List (Str×au))) (x0:Str):Option Bool :=
  (je N g0.plan x0).bind fun v1=>(bif v1.1.dD then (qy N g0 aQ aI x0) else some false).bind fun v2=>some (v1.1.dD&&(!v2))
def jO (N:Nat) (g0:ai) (aQ:(List (Str×ah))) (aI:(List (Str×au))) (s2:(List Str)) (p3:(Str×Str)):Option (List Str) :=
  (qP N g0 aQ aI p3.2).bind fun v5=>bif v5 then ((app s2 [p3.1]).bind fun v6=>some v6) else (some s2)
def jW (N:Nat) (g0:ai) (aQ:(List (Str×ah))) (aI:(List (Str×au))) (aO:(List (Str×Str))):Option (List Str) :=
  Jt aO fun q4p=>(Me (jO N g0 aQ aI) q4p []).bind fun s2=>(mV N s2).bind fun v8=>some v8
def nV (N:Nat) (g0:ai) (aQ:(List (Str×ah))) (aI:(List (Str×au))) (aO:(List (Str×Str))):Option (List Str) :=
  (jW N g0 aQ aI aO).bind fun v1=>some v1
def pF (N:Nat) (x0:af) (s1:((List Str)×Int)):Option (((List Str)×Int) ⊕ (List Str)) :=
  bif (aG .lss s1.2 (List.length x0.oV:Int)) then ((idx x0.oV s1.2).bind fun v2=>(jh N x0.P v2.Space).bind fun v3=>(idx x0.P.bM v3).bind fun v4=>(bif v4.dD then (iP N x0 v2.Space (-1)) else some false).bind fun v5=>bif (v4.dD&&(!v5)) then ((app s1.1 [v2.Name]).bind fun v6=>some (.inl (v6,(IntKind.i64.wrap (s1.2+1))))) else (some (.inl (s1.1,(IntKind.i64.wrap (s1.2+1)))))) else (some (.inr s1.1))
def pV (N:Nat) (x0:af):Option ((List Str)) :=
  (dX (pF N x0) N ([],0)).bind fun o9=>some o9
def nK (N:Nat) (x0:GPermitPlan) (jk:(af×ai×(List (Str×ah))×(List (Str×au))×(List (Str×Str)))) (VI:Int):Option (Int ⊕ (Unit ⊕ Bool)) :=
  bif (aG .lss VI (List.length x0.bM:Int)) then ((idx x0.bM VI).bind fun v34=>(pO N jk.2.1 jk.2.2.1 jk.2.2.2.1 jk.2.2.2.2 v34.Name).bind fun v35=>(bif (!(aG .neq v35.2.2 0)) then (nT N jk.1 VI false) else some false).bind fun v36=>(bif (!((aG .neq v35.2.2 0)||(!(v35.1 == v36)))) then (nT N jk.1 VI true) else some false).bind fun v37=>(bif (!(((aG .neq v35.2.2 0)||(!(v35.1 == v36)))||(!(v35.2.1 == v37)))) then (idx x0.bM VI) else some (⟨[],false,[]⟩:dH)).bind fun v38=>(bif (!(((aG .neq v35.2.2 0)||(!(v35.1 == v36)))||(!(v35.2.1 == v37)))) then (ou N jk.2.1 jk.2.2.1 jk.2.2.2.1 jk.2.2.2.2 v38.Name) else some []).bind fun v39=>(bif (!(((aG .neq v35.2.2 0)||(!(v35.1 == v36)))||(!(v35.2.1 == v37)))) then (idx x0.bM VI) else some (⟨[],false,[]⟩:dH)).bind fun v40=>(bif (!(((aG .neq v35.2.2 0)||(!(v35.1 == v36)))||(!(v35.2.1 == v37)))) then (uD N jk.1 v40.Name) else some []).bind fun v41=>(bif (!(((aG .neq v35.2.2 0)||(!(v35.1 == v36)))||(!(v35.2.1 == v37)))) then (qA N v39 v41) else some false).bind fun v42=>bif ((((aG .neq v35.2.2 0)||(!(v35.1 == v36)))||(!(v35.2.1 == v37)))||(!v42)) then (some (.inr (Sum.inr false))) else (some (.inl (IntKind.i64.wrap (VI+1))))) else (some (.inr (Sum.inl ())))
def nJ (N:Nat) (x0:GPermitPlan) (jk:(af×ai×(List (Str×ah))×(List (Str×au))×(List (Str×Str)))) (s19:Int):Option (Int ⊕ (Unit ⊕ Bool)) :=
  bif (aG .lss s19 (List.length x0.ak:Int)) then ((idx x0.ak s19).bind fun v20=>(nP N jk.2.1 jk.2.2.1 jk.2.2.2.1 jk.2.2.2.2 v20.Name).bind fun v21=>(idx x0.ak s19).bind fun v22=>(oL N jk.2.1 jk.2.2.1 jk.2.2.2.1 jk.2.2.2.2 v22.Name).bind fun v23=>(idx jk.1.cO s19).bind fun v24=>(bif (!((aG .neq v21.1 v24)||(aG .neq (IntKind.i64.wrap (v21.2+v23.2)) 0))) then (mW N jk.1 s19) else some []).bind fun v25=>(bif (!((aG .neq v21.1 v24)||(aG .neq (IntKind.i64.wrap (v21.2+v23.2)) 0))) then (zx N v23.1 v25) else some false).bind fun v26=>bif (((aG .neq v21.1 v24)||(aG .neq (IntKind.i64.wrap (v21.2+v23.2)) 0))||(!v26)) then (some (.inr (Sum.inr false))) else (some (.inl (IntKind.i64.wrap (s19+1))))) else (some (.inr (Sum.inl ())))
def oP (N:Nat) (x1:(List GEvent)) (s11:(af×Int×ai×(List (Str×ah))×(List (Str×au))×(List (Str×Str)))):Option ((af×Int×ai×(List (Str×ah))×(List (Str×au))×(List (Str×Str))) ⊕ (af×ai×(List (Str×ah))×(List (Str×au))×(List (Str×Str)))) :=
  bif (aG .lss s11.2.1 (List.length x1:Int)) then ((idx x1 s11.2.1).bind fun v12=>(pq N s11.2.2.1 s11.2.2.2.1 s11.2.2.2.2.1 s11.2.2.2.2.2 v12).bind fun v13=>(idx x1 s11.2.1).bind fun v14=>(xB N s11.1 v14).bind fun v15=>some (.inl (v15.1,(IntKind.i64.wrap (s11.2.1+1)),v13.1,v13.2.1,v13.2.2.1,v13.2.2.2.1))) else (some (.inr (s11.1,s11.2.2.1,s11.2.2.2.1,s11.2.2.2.2.1,s11.2.2.2.2.2)))
def ve (N:Nat) (x0:GPermitPlan) (x1:(List GEvent)) (x2:Str):Option (Bool) :=
  (Ar N x0).bind fun v1=>bif ((!v1)||(aG .gtr (List.length x1:Int) 30)) then ((wz N).bind fun v2=>some v2) else ((wJ N x0).bind fun v3=>PN v3 (fun Xd=>some false) (fun xU Xd=>bif (false||(aG .neq Xd 0)) then (some false) else ((DR N x0).bind fun v10=>(dX (oP N x1) N (v10,0,xU.1,xU.2.1,xU.2.2.1,xU.2.2.2)).bind fun jk=>(dX (nJ N x0 jk) N 0).bind fun o29=>Sum.elim (fun l31=>(dX (nK N x0 jk) N 0).bind fun o45=>Sum.elim (fun l47=>(((qc N x0 x2).bind fun v49=>bif (aG .lss v49 0) then ((nP N jk.2.1 jk.2.2.1 jk.2.2.2.1 jk.2.2.2.2 x2).bind fun v50=>(oL N jk.2.1 jk.2.2.1 jk.2.2.2.1 jk.2.2.2.2 x2).bind fun v51=>bif ((((aG .neq v50.1 0)||(aG .neq (List.length v51.1:Int) 0))||(aG .neq v50.2 6))||(aG .neq v51.2 6)) then (some (Sum.inr false)) else (some (Sum.inl ()))) else (some (Sum.inl ()))):Option (Unit ⊕ Bool)).bind fun o54=>Sum.elim (fun l56=>(jh N x0 x2).bind fun v58=>bif (aG .lss v58 0) then ((pO N jk.2.1 jk.2.2.1 jk.2.2.2.1 jk.2.2.2.2 x2).bind fun v59=>(bif (!((v59.1||v59.2.1)||(aG .neq v59.2.2 6))) then (ou N jk.2.1 jk.2.2.1 jk.2.2.2.1 jk.2.2.2.2 x2) else some []).bind fun v60=>bif (((v59.1||v59.2.1)||(aG .neq v59.2.2 6))||(aG .neq (List.length v60:Int) 0)) then (some false) else ((pU N jk.2.1 jk.2.2.1 jk.2.2.2.1 jk.2.2.2.2).bind fun v61=>(rD N jk.1).bind fun v62=>(qA N v61 v62).bind fun v63=>(bif v63 then (nV N jk.2.1 jk.2.2.1 jk.2.2.2.1 jk.2.2.2.2) else some []).bind fun v64=>(bif v63 then (pV N jk.1) else some []).bind fun v65=>(bif v63 then (qA N v64 v65) else some false).bind fun v66=>(bif (v63&&v66) then (wz N) else some false).bind fun v67=>some ((v63&&v66)&&v67))) else ((pU N jk.2.1 jk.2.2.1 jk.2.2.2.1 jk.2.2.2.2).bind fun v69=>(rD N jk.1).bind fun v70=>(qA N v69 v70).bind fun v71=>(bif v71 then (nV N jk.2.1 jk.2.2.1 jk.2.2.2.1 jk.2.2.2.2) else some []).bind fun v72=>(bif v71 then (pV N jk.1) else some []).bind fun v73=>(bif v71 then (qA N v72 v73) else some false).bind fun v74=>(bif (v71&&v74) then (wz N) else some false).bind fun v75=>some ((v71&&v74)&&v75))) (fun r57=>some r57) o54) (fun r48=>some r48) o45) (fun r32=>some r32) o29)))
end
end Go.KB
