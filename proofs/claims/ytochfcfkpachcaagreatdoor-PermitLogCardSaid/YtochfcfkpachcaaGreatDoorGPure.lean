/- The functions as plain Lean functions. Printed by a program. No condition. -/
import Derived.Test.YtochfcfkpachcaaGreatDoorGTypes
import Derived.Test.YtochfcfkpachcaaGreatDoorKSos
import Derived.Test.YtochfcfkpachcaaGreatDoorKLc
namespace Go.KB
set_option linter.unusedVariables false
noncomputable section
def qj (N:Nat) (x0:GPermitPlan) (s10:Int):Option (Int ⊕ (Unit ⊕ Bool)) :=
  bif (aS .lss s10 (List.length x0.aH:Int)) then ((idx x0.aH s10).bind fun v11=>(bif (!(aS .gtr (List.length v11.Locks:Int) 20)) then (idx x0.aH s10) else some (⟨[],0,[],0,0,[]⟩:aP)).bind fun v12=>bif ((aS .gtr (List.length v11.Locks:Int) 20)||(aS .gtr (List.length v12.Name:Int) 40)) then (some (.inr (Sum.inr true))) else (some (.inl (IntKind.i64.wrap (s10+1))))) else (some (.inr (Sum.inl ())))
def qi (N:Nat) (x0:GPermitPlan) (s1:Int):Option (Int ⊕ (Unit ⊕ Bool)) :=
  bif (aS .lss s1 (List.length x0.dA:Int)) then ((idx x0.dA s1).bind fun v2=>(bif (!(aS .gtr (List.length v2.Next:Int) 40)) then (idx x0.dA s1) else some (⟨[],false,[]⟩:dH)).bind fun v3=>bif ((aS .gtr (List.length v2.Next:Int) 40)||(aS .gtr (List.length v3.Name:Int) 40)) then (some (.inr (Sum.inr true))) else (some (.inl (IntKind.i64.wrap (s1+1))))) else (some (.inr (Sum.inl ())))
def xM (N:Nat) (x0:GPermitPlan):Option (Bool) :=
  bif (((aS .gtr (List.length x0.dA:Int) 40)||(aS .gtr (List.length x0.dR:Int) 40))||(aS .gtr (List.length x0.aH:Int) 30)) then (some true) else ((eF (qi N x0) N 0).bind fun o6=>Sum.elim (fun l8=>(eF (qj N x0) N 0).bind fun PW=>Sum.elim (fun l17=>some false) (fun W9=>some W9) PW) (fun r9=>some r9) o6)
def Bf (N:Nat) (x0:Str) (s1:Int):Option (Int ⊕ (Unit ⊕ Bool)) :=
  bif (aS .lss s1 (List.length x0:Int)) then ((idx x0 s1).bind fun v2=>bif ((!(((aS .geq ((UInt8.toNat v2:Nat):Int) 97)&&(aS .leq ((UInt8.toNat v2:Nat):Int) 122))||((aS .geq ((UInt8.toNat v2:Nat):Int) 65)&&(aS .leq ((UInt8.toNat v2:Nat):Int) 90))))&&((aS .eql s1 0)||((aS .neq ((UInt8.toNat v2:Nat):Int) 45)&&((aS .lss ((UInt8.toNat v2:Nat):Int) 48)||(aS .gtr ((UInt8.toNat v2:Nat):Int) 57))))) then (some (.inr (Sum.inr false))) else (some (.inl (IntKind.i64.wrap (s1+1))))) else (some (.inr (Sum.inl ())))
def zf (N:Nat) (x0:Str):Option (Bool) :=
  bif ((aS .lss (List.length x0:Int) 1)||(aS .gtr (List.length x0:Int) 12)) then (some false) else ((eF (Bf N x0) N 0).bind fun o5=>Sum.elim (fun l7=>some true) (fun r8=>some r8) o5)
def wM (N:Nat) (x0:GPermitPlan) (x1:Str) (s1:Int):Option (Int ⊕ (Unit ⊕ Int)) :=
  bif (aS .lss s1 (List.length x0.dA:Int)) then ((idx x0.dA s1).bind fun v2=>bif (BA .eql v2.Name x1) then (some (.inr (Sum.inr s1))) else (some (.inl (IntKind.i64.wrap (s1+1))))) else (some (.inr (Sum.inl ())))
def vW (N:Nat) (x0:GPermitPlan) (x1:Str):Option (Int) :=
  (eF (wM N x0 x1) N 0).bind fun o5=>Sum.elim (fun l7=>some (-1)) (fun r8=>some r8) o5
def wO (N:Nat) (x0:GPermitPlan) (x1:Int) (x2:Str):Option (Bool) :=
  (vW N x0 x2).bind fun v1=>some ((aS .geq v1 0)&&(aS .lss v1 x1))
def oH (N:Nat) (x0:GPermitPlan) (s15:Int) (s16:Int):Option (Int ⊕ (Unit ⊕ Int)) :=
  (idx x0.dA s15).bind fun v17=>bif (aS .lss s16 (List.length v17.Next:Int)) then ((idx x0.dA s15).bind fun v18=>(idx v18.Next s16).bind fun v19=>(vW N x0 v19).bind fun v20=>bif (aS .lss v20 0) then (some (.inr (Sum.inr 6))) else ((idx x0.dA s15).bind fun v21=>(idx v21.Next s16).bind fun v22=>(idx x0.dA s15).bind fun v23=>bif (BA .eql v22 v23.Name) then (some (.inr (Sum.inr 3))) else (some (.inl (IntKind.i64.wrap (s16+1)))))) else (some (.inr (Sum.inl ())))
def oG (N:Nat) (x0:GPermitPlan) (s15:Int):Option (Int ⊕ (Unit ⊕ Int)) :=
  bif (aS .lss s15 (List.length x0.dA:Int)) then ((eF (oH N x0 s15) N 0).bind fun Z4=>Sum.elim (fun l29=>some (.inl (IntKind.i64.wrap (s15+1)))) (fun r30=>some (.inr (Sum.inr r30))) Z4) else (some (.inr (Sum.inl ())))
def oD (N:Nat) (x0:GPermitPlan) (s1:Int):Option (Int ⊕ (Unit ⊕ Int)) :=
  bif (aS .lss s1 (List.length x0.dA:Int)) then ((idx x0.dA s1).bind fun v2=>(zf N v2.Name).bind fun v3=>bif (!v3) then (some (.inr (Sum.inr 4))) else ((idx x0.dA s1).bind fun v4=>(wO N x0 s1 v4.Name).bind fun v5=>bif v5 then (some (.inr (Sum.inr 5))) else ((idx x0.dA s1).bind fun v6=>bif (aS .gtr (List.length v6.Next:Int) 30) then (some (.inr (Sum.inr 8))) else (some (.inl (IntKind.i64.wrap (s1+1))))))) else (some (.inr (Sum.inl ())))
def sU (N:Nat) (x0:GPermitPlan):Option (Int) :=
  (eF (oD N x0) N 0).bind fun o11=>Sum.elim (fun l13=>(eF (oG N x0) N 0).bind fun o33=>Sum.elim (fun l35=>some 0) (fun r36=>some r36) o33) (fun r14=>some r14) o11
def yS (N:Nat) (x0:Int):Option (Bool) :=
  some ((aS .geq x0 0)&&(aS .leq x0 5))
def vw (N:Nat) (x0:GPermitPlan) (x1:Str) (s1:Int):Option (Int ⊕ (Unit ⊕ Int)) :=
  bif (aS .lss s1 (List.length x0.aH:Int)) then ((idx x0.aH s1).bind fun v2=>bif (BA .eql v2.Name x1) then (some (.inr (Sum.inr s1))) else (some (.inl (IntKind.i64.wrap (s1+1))))) else (some (.inr (Sum.inl ())))
def wP (N:Nat) (x0:GPermitPlan) (x1:Str):Option (Int) :=
  (eF (vw N x0 x1) N 0).bind fun o5=>Sum.elim (fun l7=>some (-1)) (fun r8=>some r8) o5
def qo (N:Nat) (x0:GPermitPlan) (v29:aP) (s30:Int):Option (Int ⊕ (Unit ⊕ Int)) :=
  bif (aS .lss s30 (List.length v29.Locks:Int)) then ((idx v29.Locks s30).bind fun v31=>(wP N x0 v31).bind fun v32=>bif (aS .lss v32 0) then (some (.inr (Sum.inr 6))) else ((idx x0.aH v32).bind fun v33=>bif ((aS .neq v33.Kind 5)||(aS .eql v29.Kind 5)) then (some (.inr (Sum.inr 3))) else (some (.inl (IntKind.i64.wrap (s30+1)))))) else (some (.inr (Sum.inl ())))
def qm (N:Nat) (x0:GPermitPlan) (s28:Int):Option (Int ⊕ (Unit ⊕ Int)) :=
  bif (aS .lss s28 (List.length x0.aH:Int)) then ((idx x0.aH s28).bind fun v29=>(eF (qo N x0 v29) N 0).bind fun o37=>Sum.elim (fun l39=>some (.inl (IntKind.i64.wrap (s28+1)))) (fun r40=>some (.inr (Sum.inr r40))) o37) else (some (.inr (Sum.inl ())))
def ql (N:Nat) (x0:GPermitPlan) (s12:Int):Option (Int ⊕ (Unit ⊕ Int)) :=
  bif (aS .lss s12 (List.length x0.aH:Int)) then ((idx x0.aH s12).bind fun v13=>(zf N v13.Name).bind fun v14=>bif (!v14) then (some (.inr (Sum.inr 4))) else ((wP N x0 v13.Name).bind fun v15=>bif (aS .lss v15 s12) then (some (.inr (Sum.inr 5))) else ((yS N v13.Kind).bind fun v16=>bif ((((!v16)||(aS .lss v13.From 0))||(aS .geq v13.From v13.To))||(aS .gtr v13.To 1000000)) then (some (.inr (Sum.inr 2))) else ((vW N x0 v13.Space).bind fun v17=>bif (aS .lss v17 0) then (some (.inr (Sum.inr 6))) else (bif (aS .gtr (List.length v13.Locks:Int) 10) then (some (.inr (Sum.inr 8))) else (some (.inl (IntKind.i64.wrap (s12+1))))))))) else (some (.inr (Sum.inl ())))
def vC (N:Nat) (x0:GPermitPlan) (s2:Int):Option (Int ⊕ (Unit ⊕ Int)) :=
  bif (aS .lss s2 (List.length x0.dR:Int)) then ((idx x0.dR s2).bind fun v3=>(yS N v3.A).bind fun v4=>(bif (!(!v4)) then (yS N v3.B) else some false).bind fun v5=>bif ((((!v4)||(!v5))||(aS .lss v3.Reach 0))||(aS .gtr v3.Reach 2)) then (some (.inr (Sum.inr 2))) else (some (.inl (IntKind.i64.wrap (s2+1))))) else (some (.inr (Sum.inl ())))
def vz (N:Nat) (x0:GPermitPlan):Option (Int) :=
  bif (((aS .gtr (List.length x0.dA:Int) 30)||(aS .gtr (List.length x0.dR:Int) 30))||(aS .gtr (List.length x0.aH:Int) 20)) then (some 8) else (bif ((aS .lss x0.dK 1)||(aS .gtr x0.dK 10000)) then (some 2) else ((sU N x0).bind fun v1=>bif (aS .neq v1 0) then (some v1) else ((eF (vC N x0) N 0).bind fun o8=>Sum.elim (fun l10=>(eF (ql N x0) N 0).bind fun Qn=>Sum.elim (fun l26=>(eF (qm N x0) N 0).bind fun o43=>Sum.elim (fun l45=>some 0) (fun r46=>some r46) o43) (fun r27=>some r27) Qn) (fun r11=>some r11) o8)))
def yH (N:Nat) (x0:GPermitPlan):Option (Bool) :=
  (xM N x0).bind fun v1=>(bif (!v1) then (vz N x0) else some 0).bind fun v2=>some (((((!v1)&&(aS .eql v2 0))&&(aS .leq (List.length x0.dA:Int) 8))&&(aS .leq (List.length x0.aH:Int) 8))&&(aS .leq (List.length x0.dR:Int) 12))
def Bh (N:Nat):Option ((List cZ)) :=
  some [(⟨0,2,1⟩:cZ),(⟨3,0,1⟩:cZ),(⟨3,1,1⟩:cZ),(⟨3,2,1⟩:cZ),(⟨3,3,1⟩:cZ),(⟨4,4,0⟩:cZ)]
def CW (N:Nat):Option (GPermitPlan) :=
  (Bh N).bind fun v1=>some (⟨[(⟨([100,101,99,107]:Str),false,[([116,97,110,107]:Str)]⟩:dH),(⟨([116,97,110,107]:Str),true,[]⟩:dH),(⟨([104,111,108,100]:Str),true,[([116,97,110,107]:Str)]⟩:dH)],v1,[(⟨([119,101,108,100]:Str),0,([100,101,99,107]:Str),0,600,[]⟩:aP),(⟨([103,111]:Str),1,([116,97,110,107]:Str),0,600,[([112,117,109,112]:Str)]⟩:aP),(⟨([112,97,105,110,116]:Str),2,([104,111,108,100]:Str),0,600,[]⟩:aP),(⟨([112,117,109,112]:Str),5,([116,97,110,107]:Str),0,600,[]⟩:aP)],60⟩:GPermitPlan)
def xE (N:Nat) (x0:Int):Option (Bool) :=
  some (((aS .geq x0 97)&&(aS .leq x0 122))||((aS .geq x0 65)&&(aS .leq x0 90)))
def rH (N:Nat) (x0:Str) (s3:Int):Option (Int ⊕ (Unit ⊕ Bool)) :=
  bif (aS .lss s3 (List.length x0:Int)) then ((idx x0 s3).bind fun v4=>(xE N ((UInt8.toNat v4:Nat):Int)).bind fun v5=>bif (((!v5)&&(aS .neq ((UInt8.toNat v4:Nat):Int) 45))&&((aS .lss ((UInt8.toNat v4:Nat):Int) 48)||(aS .gtr ((UInt8.toNat v4:Nat):Int) 57))) then (some (.inr (Sum.inr false))) else (some (.inl (IntKind.i64.wrap (s3+1))))) else (some (.inr (Sum.inl ())))
def nM (N:Nat) (x0:Str):Option (Bool) :=
  (bif (!((aS .lss (List.length x0:Int) 1)||(aS .gtr (List.length x0:Int) 12))) then (idx x0 0) else some 0).bind fun v1=>(bif (!((aS .lss (List.length x0:Int) 1)||(aS .gtr (List.length x0:Int) 12))) then (xE N ((UInt8.toNat v1:Nat):Int)) else some false).bind fun v2=>bif (((aS .lss (List.length x0:Int) 1)||(aS .gtr (List.length x0:Int) 12))||(!v2)) then (some false) else ((eF (rH N x0) N 0).bind fun o8=>Sum.elim (fun l10=>some true) (fun r11=>some r11) o8)
def nX (N:Nat) (l10:(List (Str×Bool))) (v13:dH) (s14:Int):Option (Int ⊕ (Unit ⊕ Int)) :=
  bif (aS .lss s14 (List.length v13.Next:Int)) then ((idx v13.Next s14).bind fun v15=>bif (!(fU false l10 v15)) then (some (.inr (Sum.inr 6))) else (bif (BA .eql v15 v13.Name) then (some (.inr (Sum.inr 3))) else (some (.inl (IntKind.i64.wrap (s14+1)))))) else (some (.inr (Sum.inl ())))
def nV (N:Nat) (x0:GPermitPlan) (l10:(List (Str×Bool))) (s12:Int):Option (Int ⊕ (Unit ⊕ Int)) :=
  bif (aS .lss s12 (List.length x0.dA:Int)) then ((idx x0.dA s12).bind fun v13=>(eF (nX N l10 v13) N 0).bind fun ZG=>Sum.elim (fun l21=>some (.inl (IntKind.i64.wrap (s12+1)))) (fun r22=>some (.inr (Sum.inr r22))) ZG) else (some (.inr (Sum.inl ())))
def nU (N:Nat) (x0:GPermitPlan) (s1:((List (Str×Bool))×Int)):Option (((List (Str×Bool))×Int) ⊕ ((List (Str×Bool)) ⊕ Int)) :=
  bif (aS .lss s1.2 (List.length x0.dA:Int)) then ((idx x0.dA s1.2).bind fun v2=>(nM N v2.Name).bind fun v3=>bif (!v3) then (some (.inr (Sum.inr 4))) else (bif (fU false s1.1 v2.Name) then (some (.inr (Sum.inr 5))) else (bif (aS .gtr (List.length v2.Next:Int) 30) then (some (.inr (Sum.inr 8))) else (some (.inl ((qM s1.1 v2.Name true),(IntKind.i64.wrap (s1.2+1)))))))) else (some (.inr (Sum.inl s1.1)))
def rX (N:Nat) (x0:GPermitPlan):Option (Int) :=
  (eF (nU N x0) N (([]:(List (Str×Bool))),0)).bind fun o8=>Sum.elim (fun l10=>(eF (nV N x0 l10) N 0).bind fun o25=>Sum.elim (fun l27=>some 0) (fun r28=>some r28) o25) (fun r11=>some r11) o8
def xN (N:Nat) (x0:Int):Option (Bool) :=
  some ((aS .geq x0 0)&&(aS .leq x0 5))
def uh (N:Nat) (x0:dH) (c0:Str):Option (Bool) :=
  some (BA .eql x0.Name c0)
def jL (N:Nat) (x0:(List dH)) (x1:(dH→Option Bool)) (s1:Int):Option (Int ⊕ (Unit ⊕ Int)) :=
  bif (aS .lss s1 (List.length x0:Int)) then ((idx x0 s1).bind fun v2=>(x1 v2).bind fun v3=>bif v3 then (some (.inr (Sum.inr s1))) else (some (.inl (IntKind.i64.wrap (s1+1))))) else (some (.inr (Sum.inl ())))
def kF (N:Nat) (x0:(List dH)) (x1:(dH→Option Bool)):Option (Int) :=
  (eF (jL N x0 x1) N 0).bind fun o6=>Sum.elim (fun l8=>some (-1)) (fun r9=>some r9) o6
def iY (N:Nat) (x0:GPermitPlan) (x1:Str):Option (dH×Bool) :=
  (kF N x0.dA (fun y0=>uh N y0 x1)).bind fun v1=>bif (aS .lss v1 0) then (some ((⟨[],false,[]⟩:dH),false)) else ((idx x0.dA v1).bind fun v2=>some (v2,true))
def sV (N:Nat) (x0:aP) (c0:Str):Option (Bool) :=
  some (BA .eql x0.Name c0)
def jq (N:Nat) (x0:(List aP)) (x1:(aP→Option Bool)) (s1:Int):Option (Int ⊕ (Unit ⊕ Int)) :=
  bif (aS .lss s1 (List.length x0:Int)) then ((idx x0 s1).bind fun v2=>(x1 v2).bind fun v3=>bif v3 then (some (.inr (Sum.inr s1))) else (some (.inl (IntKind.i64.wrap (s1+1))))) else (some (.inr (Sum.inl ())))
def jR (N:Nat) (x0:(List aP)) (x1:(aP→Option Bool)):Option (Int) :=
  (eF (jq N x0 x1) N 0).bind fun o6=>Sum.elim (fun l8=>some (-1)) (fun r9=>some r9) o6
def mQ (N:Nat) (x0:GPermitPlan) (x1:Str):Option (aP×Bool) :=
  (jR N x0.aH (fun y0=>sV N y0 x1)).bind fun v1=>bif (aS .lss v1 0) then (some ((⟨[],0,[],0,0,[]⟩:aP),false)) else ((idx x0.aH v1).bind fun v2=>some (v2,true))
def nK (N:Nat) (x0:GPermitPlan) (v17:aP) (s18:Int):Option (Int ⊕ (Unit ⊕ Int)) :=
  bif (aS .lss s18 (List.length v17.Locks:Int)) then ((idx v17.Locks s18).bind fun v19=>(mQ N x0 v19).bind fun v20=>bif (!v20.2) then (some (.inr (Sum.inr 6))) else (bif ((aS .neq v20.1.Kind 5)||(aS .eql v17.Kind 5)) then (some (.inr (Sum.inr 3))) else (some (.inl (IntKind.i64.wrap (s18+1)))))) else (some (.inr (Sum.inl ())))
def nJ (N:Nat) (x0:GPermitPlan) (s16:Int):Option (Int ⊕ (Unit ⊕ Int)) :=
  bif (aS .lss s16 (List.length x0.aH:Int)) then ((idx x0.aH s16).bind fun v17=>(eF (nK N x0 v17) N 0).bind fun Qn=>Sum.elim (fun l26=>some (.inl (IntKind.i64.wrap (s16+1)))) (fun r27=>some (.inr (Sum.inr r27))) Qn) else (some (.inr (Sum.inl ())))
def nI (N:Nat) (x0:GPermitPlan) (s1:((List (Str×Bool))×Int)):Option (((List (Str×Bool))×Int) ⊕ (Unit ⊕ Int)) :=
  bif (aS .lss s1.2 (List.length x0.aH:Int)) then ((idx x0.aH s1.2).bind fun v2=>(iY N x0 v2.Space).bind fun v3=>(nM N v2.Name).bind fun v4=>bif (!v4) then (some (.inr (Sum.inr 4))) else (bif (fU false s1.1 v2.Name) then (some (.inr (Sum.inr 5))) else ((xN N v2.Kind).bind fun v5=>bif ((((!v5)||(aS .lss v2.From 0))||(aS .geq v2.From v2.To))||(aS .gtr v2.To 1000000)) then (some (.inr (Sum.inr 2))) else (bif (!v3.2) then (some (.inr (Sum.inr 6))) else (bif (aS .gtr (List.length v2.Locks:Int) 10) then (some (.inr (Sum.inr 8))) else (some (.inl ((qM s1.1 v2.Name true),(IntKind.i64.wrap (s1.2+1)))))))))) else (some (.inr (Sum.inl ())))
def rf (N:Nat) (x0:GPermitPlan):Option (Int) :=
  (eF (nI N x0) N (([]:(List (Str×Bool))),0)).bind fun XY=>Sum.elim (fun l14=>(eF (nJ N x0) N 0).bind fun Z7=>Sum.elim (fun l32=>some 0) (fun r33=>some r33) Z7) (fun r15=>some r15) XY
def oV (N:Nat) (x0:GPermitPlan) (s2:Int):Option (Int ⊕ (Unit ⊕ Int)) :=
  bif (aS .lss s2 (List.length x0.dR:Int)) then ((idx x0.dR s2).bind fun v3=>(xN N v3.A).bind fun v4=>(bif (!(!v4)) then (xN N v3.B) else some false).bind fun v5=>bif ((((!v4)||(!v5))||(aS .lss v3.Reach 0))||(aS .gtr v3.Reach 2)) then (some (.inr (Sum.inr 2))) else (some (.inl (IntKind.i64.wrap (s2+1))))) else (some (.inr (Sum.inl ())))
def rF (N:Nat) (x0:GPermitPlan):Option (Int) :=
  bif (((aS .gtr (List.length x0.dA:Int) 30)||(aS .gtr (List.length x0.dR:Int) 30))||(aS .gtr (List.length x0.aH:Int) 20)) then (some 8) else (bif ((aS .lss x0.dK 1)||(aS .gtr x0.dK 10000)) then (some 2) else ((rX N x0).bind fun v1=>bif (aS .neq v1 0) then (some v1) else ((eF (oV N x0) N 0).bind fun o8=>Sum.elim (fun l10=>(rf N x0).bind fun v12=>some v12) (fun r11=>some r11) o8)))
def kZ (N:Nat) (x0:(List Str)) (x1:Str) (s1:Int):Option (Int ⊕ (Unit ⊕ Int)) :=
  bif (aS .lss s1 (List.length x0:Int)) then ((idx x0 s1).bind fun v2=>bif (BA .eql x1 v2) then (some (.inr (Sum.inr s1))) else (some (.inl (IntKind.i64.wrap (s1+1))))) else (some (.inr (Sum.inl ())))
def pM (N:Nat) (x0:(List Str)) (x1:Str):Option (Int) :=
  (eF (kZ N x0 x1) N 0).bind fun o5=>Sum.elim (fun l7=>some (-1)) (fun r8=>some r8) o5
def iJ (N:Nat) (x0:(List Str)) (x1:Str):Option (Bool) :=
  (pM N x0 x1).bind fun v1=>some (aS .geq v1 0)
def qC (N:Nat) (x0:GPermitPlan) (x1:Str) (x2:Str):Option (Int) :=
  (iY N x0 x1).bind fun v1=>(iY N x0 x2).bind fun v2=>bif (BA .eql x1 x2) then (some 0) else ((iJ N v1.1.Next x2).bind fun v3=>(bif (!v3) then (iJ N v2.1.Next x1) else some false).bind fun v4=>bif (v3||v4) then (some 1) else (some 2))
def EU (N:Nat) (x0:GPermitPlan) (x1:Str) (x2:Str):Option (Int×Int) :=
  (rF N x0).bind fun v1=>bif (aS .neq v1 0) then (some (0,v1)) else ((iY N x0 x1).bind fun v2=>(iY N x0 x2).bind fun v3=>bif ((!v2.2)||(!v3.2)) then (some (0,6)) else ((qC N x0 x1 x2).bind fun v4=>some (v4,0)))
def lQ (N:Nat) (x0:(List dH)):Option ((List dH)) :=
  (app ([]:(List dH)) x0).bind fun v1=>some v1
def jH (N:Nat) (x0:(List cZ)):Option ((List cZ)) :=
  (app ([]:(List cZ)) x0).bind fun v1=>some v1
def kY (N:Nat) (x0:(List aP)):Option ((List aP)) :=
  (app ([]:(List aP)) x0).bind fun v1=>some v1
def iC (N:Nat) (x0:(List Str)):Option ((List Str)) :=
  (app ([]:(List Str)) x0).bind fun v1=>some v1
def pW (N:Nat) (v3:(List aP)) (s14:(Int×(List aP))):Option ((Int×(List aP)) ⊕ (List aP)) :=
  bif (aS .lss s14.1 (List.length v3:Int)) then ((idx s14.2 s14.1).bind fun v15=>(iC N v15.Locks).bind fun v16=>(idx s14.2 s14.1).bind fun v17=>some (.inl ((IntKind.i64.wrap (s14.1+1)),(List.set s14.2 (Int.toNat s14.1) ({ v17 with Locks:=v16 }:aP))))) else (some (.inr s14.2))
def pV (N:Nat) (v1:(List dH)) (s7:(Int×(List dH))):Option ((Int×(List dH)) ⊕ (List dH)) :=
  bif (aS .lss s7.1 (List.length v1:Int)) then ((idx s7.2 s7.1).bind fun v8=>(iC N v8.Next).bind fun v9=>(idx s7.2 s7.1).bind fun v10=>some (.inl ((IntKind.i64.wrap (s7.1+1)),(List.set s7.2 (Int.toNat s7.1) ({ v10 with Next:=v9 }:dH))))) else (some (.inr s7.2))
def xC (N:Nat) (x0:GPermitPlan):Option (GPermitPlan) :=
  (lQ N x0.dA).bind fun v1=>(jH N x0.dR).bind fun v2=>(kY N x0.aH).bind fun v3=>(eF (pV N v1) N (0,v1)).bind fun XY=>(eF (pW N v3) N (0,v3)).bind fun ZG=>some ({ ({ x0 with dR:=v2 }:GPermitPlan) with dA:=XY,aH:=ZG }:GPermitPlan)
def mX (N:Nat) (x0:(List Int)) (x1:Int) (s1:Int):Option (Int ⊕ (Unit ⊕ Int)) :=
  bif (aS .lss s1 (List.length x0:Int)) then ((idx x0 s1).bind fun v2=>bif (aS .eql x1 v2) then (some (.inr (Sum.inr s1))) else (some (.inl (IntKind.i64.wrap (s1+1))))) else (some (.inr (Sum.inl ())))
def tJ (N:Nat) (x0:(List Int)) (x1:Int):Option (Int) :=
  (eF (mX N x0 x1) N 0).bind fun o5=>Sum.elim (fun l7=>some (-1)) (fun r8=>some r8) o5
def mY (N:Nat) (x0:(List Int)) (x1:Int):Option (Bool) :=
  (tJ N x0 x1).bind fun v1=>some (aS .geq v1 0)
def fE (N:Nat) (g0:af) (aC:(List (Str×ah))) (au:(List (Str×ai))) (aB:(List (Str×Str))) (x1:Str) (x2:(List Int)):Option Bool :=
  (mY N x2 ((fU (⟨0,[],0⟩:ah) aC x1).state)).bind fun v1=>some v1
def fZ (N:Nat) (g0:af) (aC:(List (Str×ah))) (au:(List (Str×ai))) (aB:(List (Str×Str))) (x1:Str) (x2:Int):Option (List (Str×ah)) :=
  some (qM aC x1 ({ (fU (⟨0,[],0⟩:ah) aC x1) with state:=x2 }:ah))
def sG (N:Nat) (x0:GPermitPlan) (v1:(dH×Bool)) (s11:((List Str)×Int)):Option (((List Str)×Int) ⊕ (List Str)) :=
  bif (aS .lss s11.2 (List.length x0.dA:Int)) then ((idx x0.dA s11.2).bind fun v12=>(bif v12.fG then (qC N x0 v12.Name v1.1.Name) else some 0).bind fun v13=>bif (v12.fG&&(aS .eql v13 1)) then ((app s11.1 [v12.Name]).bind fun v14=>some (.inl (v14,(IntKind.i64.wrap (s11.2+1))))) else (some (.inl (s11.1,(IntKind.i64.wrap (s11.2+1)))))) else (some (.inr s11.1))
def yG (N:Nat) (x0:GPermitPlan) (x1:aP):Option ((List Str)) :=
  (iY N x0 x1.Space).bind fun v1=>((((bif (aS .eql x1.Kind 0) then (some (aS .eql x1.Kind 0)) else (bif (aS .eql x1.Kind 1) then (some (aS .eql x1.Kind 1)) else (some (aS .eql x1.Kind 2)))):Option Bool).bind fun o4=>bif o4 then (bif v1.1.fG then ((app [] [v1.1.Name]).bind fun v6=>some v6) else (some [])) else (some [])):Option (List Str)).bind fun o9=>bif (aS .eql x1.Kind 0) then ((eF (sG N x0 v1) N (o9,0)).bind fun o17=>some o17) else (some o9)
def mZ (N:Nat) (g0:af) (aC:(List (Str×ah))) (au:(List (Str×ai))) (aB:(List (Str×Str))) (x1:Str):Option (Bool×Bool) :=
  (iY N g0.plan x1).bind fun v1=>bif (!v1.1.fG) then (some (true,true)) else (some ((((((kJ au x1)&&(aS .leq (IntKind.i64.wrap (g0.now - ((fU (⟨0,0,0⟩:ai) au x1).at_))) g0.plan.dK))&&(aS .geq ((fU (⟨0,0,0⟩:ai) au x1).jk) 195))&&(aS .leq ((fU (⟨0,0,0⟩:ai) au x1).jk) 235))&&(aS .leq ((fU (⟨0,0,0⟩:ai) au x1).Qk) 50)),((((((kJ au x1)&&(aS .leq (IntKind.i64.wrap (g0.now - ((fU (⟨0,0,0⟩:ai) au x1).at_))) g0.plan.dK))&&(aS .geq ((fU (⟨0,0,0⟩:ai) au x1).jk) 195))&&(aS .leq ((fU (⟨0,0,0⟩:ai) au x1).jk) 235))&&(aS .leq ((fU (⟨0,0,0⟩:ai) au x1).Qk) 50))&&(aS .leq ((fU (⟨0,0,0⟩:ai) au x1).Qk) 10))))
def jT (N:Nat) (g0:af) (aC:(List (Str×ah))) (au:(List (Str×ai))) (aB:(List (Str×Str))) (x0:Str) (c1:aP):Option Bool :=
  (mZ N g0 aC au aB x0).bind fun v1=>bif (aS .eql c1.Kind 0) then (some v1.2) else (some v1.1)
def dZ (N:Nat) (g0:af) (aC:(List (Str×ah))) (au:(List (Str×ai))) (aB:(List (Str×Str))) (x0:(List Str)) (jS:aP) (s1:Int):Option (Int ⊕ (Unit ⊕ Int)) :=
  bif (aS .lss s1 (List.length x0:Int)) then ((idx x0 s1).bind fun v2=>(jT N g0 aC au aB v2 jS).bind fun v3=>bif v3 then (some (.inr (Sum.inr s1))) else (some (.inl (IntKind.i64.wrap (s1+1))))) else (some (.inr (Sum.inl ())))
def fA (N:Nat) (g0:af) (aC:(List (Str×ah))) (au:(List (Str×ai))) (aB:(List (Str×Str))) (x0:(List Str)) (jS:aP):Option Int :=
  (eF (dZ N g0 aC au aB x0 jS) N 0).bind fun o6=>Sum.elim (fun l8=>some (-1)) (fun r9=>some r9) o6
def dX (N:Nat) (g0:af) (aC:(List (Str×ah))) (au:(List (Str×ai))) (aB:(List (Str×Str))) (jS:aP) (s2:((List Str)×Int×Int)):Option (((List Str)×Int×Int) ⊕ ((List Str)×Int)) :=
  bif (aS .lss s2.2.2 (List.length s2.1:Int)) then ((idx s2.1 s2.2.2).bind fun v3=>(jT N g0 aC au aB v3 jS).bind fun v4=>bif (!v4) then ((idx s2.1 s2.2.1).bind fun v5=>some (.inl ((List.set s2.1 (Int.toNat s2.2.1) v3),(IntKind.i64.wrap (s2.2.1+1)),(IntKind.i64.wrap (s2.2.2+1))))) else (some (.inl (s2.1,s2.2.1,(IntKind.i64.wrap (s2.2.2+1)))))) else (some (.inr (s2.1,s2.2.1)))
def eG (N:Nat) (g0:af) (aC:(List (Str×ah))) (au:(List (Str×ai))) (aB:(List (Str×Str))) (x0:(List Str)) (jS:aP):Option (List Str) :=
  (fA N g0 aC au aB x0 jS).bind fun v1=>bif (aS .eql v1 (-1)) then (some x0) else ((eF (dX N g0 aC au aB jS) N (x0,v1,(IntKind.i64.wrap (v1+1)))).bind fun o8=>(UL o8.1 o8.2 (List.length o8.1:Int)).bind fun v10=>(bif Nat.beq ((Int.toNat o8.2)+(Int.toNat (List.length o8.1:Int) - Int.toNat o8.2)) (List.length o8.1) then some (List.take (Int.toNat o8.2) o8.1 ++ List.replicate (Int.toNat (List.length o8.1:Int) - Int.toNat o8.2) []) else none).bind fun v11=>(UL v11 0 o8.2).bind fun v12=>some v12)
def kS (N:Nat) (g0:af) (aC:(List (Str×ah))) (au:(List (Str×ai))) (aB:(List (Str×Str))) (x1:aP):Option (List Str) :=
  (yG N g0.plan x1).bind fun v1=>(eG N g0 aC au aB v1 x1).bind fun v2=>some v2
def je (N:Nat) (g0:af) (aC:(List (Str×ah))) (au:(List (Str×ai))) (aB:(List (Str×Str))) (x0:Str):Option Bool :=
  (fE N g0 aC au aB x0 [2]).bind fun v1=>some v1
def dY (N:Nat) (g0:af) (aC:(List (Str×ah))) (au:(List (Str×ai))) (aB:(List (Str×Str))) (x0:(List Str)) (s1:Int):Option (Int ⊕ (Unit ⊕ Int)) :=
  bif (aS .lss s1 (List.length x0:Int)) then ((idx x0 s1).bind fun v2=>(je N g0 aC au aB v2).bind fun v3=>bif v3 then (some (.inr (Sum.inr s1))) else (some (.inl (IntKind.i64.wrap (s1+1))))) else (some (.inr (Sum.inl ())))
def eH (N:Nat) (g0:af) (aC:(List (Str×ah))) (au:(List (Str×ai))) (aB:(List (Str×Str))) (x0:(List Str)):Option Int :=
  (eF (dY N g0 aC au aB x0) N 0).bind fun o6=>Sum.elim (fun l8=>some (-1)) (fun r9=>some r9) o6
def dJ (N:Nat) (g0:af) (aC:(List (Str×ah))) (au:(List (Str×ai))) (aB:(List (Str×Str))) (s2:((List Str)×Int×Int)):Option (((List Str)×Int×Int) ⊕ ((List Str)×Int)) :=
  bif (aS .lss s2.2.2 (List.length s2.1:Int)) then ((idx s2.1 s2.2.2).bind fun v3=>(je N g0 aC au aB v3).bind fun v4=>bif (!v4) then ((idx s2.1 s2.2.1).bind fun v5=>some (.inl ((List.set s2.1 (Int.toNat s2.2.1) v3),(IntKind.i64.wrap (s2.2.1+1)),(IntKind.i64.wrap (s2.2.2+1))))) else (some (.inl (s2.1,s2.2.1,(IntKind.i64.wrap (s2.2.2+1)))))) else (some (.inr (s2.1,s2.2.1)))
def fO (N:Nat) (g0:af) (aC:(List (Str×ah))) (au:(List (Str×ai))) (aB:(List (Str×Str))) (x0:(List Str)):Option (List Str) :=
  (eH N g0 aC au aB x0).bind fun v1=>bif (aS .eql v1 (-1)) then (some x0) else ((eF (dJ N g0 aC au aB) N (x0,v1,(IntKind.i64.wrap (v1+1)))).bind fun o8=>(UL o8.1 o8.2 (List.length o8.1:Int)).bind fun v10=>(bif Nat.beq ((Int.toNat o8.2)+(Int.toNat (List.length o8.1:Int) - Int.toNat o8.2)) (List.length o8.1) then some (List.take (Int.toNat o8.2) o8.1 ++ List.replicate (Int.toNat (List.length o8.1:Int) - Int.toNat o8.2) []) else none).bind fun v11=>(UL v11 0 o8.2).bind fun v12=>some v12)
def jB (N:Nat) (g0:af) (aC:(List (Str×ah))) (au:(List (Str×ai))) (aB:(List (Str×Str))) (x1:aP):Option (List Str) :=
  (iC N x1.Locks).bind fun v1=>(fO N g0 aC au aB v1).bind fun v2=>some v2
def lF (N:Nat) (g0:af) (au:(List (Str×ai))) (aB:(List (Str×Str))) (s10:(Bool×Int×(List (Str×ah)))):Option ((Bool×Int×(List (Str×ah))) ⊕ (Bool×(List (Str×ah)))) :=
  bif (aS .lss s10.2.1 (List.length g0.plan.aH:Int)) then ((idx g0.plan.aH s10.2.1).bind fun v11=>(fE N g0 s10.2.2 au aB v11.Name [2]).bind fun v12=>(bif v12 then (kS N g0 s10.2.2 au aB v11) else some []).bind fun v13=>(bif (v12&&(!(aS .gtr (List.length v13:Int) 0))) then (jB N g0 s10.2.2 au aB v11) else some []).bind fun v14=>bif (v12&&((aS .gtr (List.length v13:Int) 0)||(aS .gtr (List.length v14:Int) 0))) then ((fZ N g0 s10.2.2 au aB v11.Name 3).bind fun v15=>some (.inl (true,(IntKind.i64.wrap (s10.2.1+1)),v15))) else (some (.inl (s10.1,(IntKind.i64.wrap (s10.2.1+1)),s10.2.2)))) else (some (.inr (s10.1,s10.2.2)))
def mg (N:Nat) (g0:af) (au:(List (Str×ai))) (aB:(List (Str×Str))) (s9:(Bool×(List (Str×ah)))):Option ((Bool×(List (Str×ah))) ⊕ (List (Str×ah))) :=
  bif s9.1 then ((eF (lF N g0 au aB) N (false,0,s9.2)).bind fun o18=>some (.inl (o18.1,o18.2))) else (some (.inr s9.2))
def l9 (N:Nat) (g0:af) (au:(List (Str×ai))) (aB:(List (Str×Str))) (s1:(Int×(List (Str×ah)))):Option ((Int×(List (Str×ah))) ⊕ (List (Str×ah))) :=
  bif (aS .lss s1.1 (List.length g0.plan.aH:Int)) then ((idx g0.plan.aH s1.1).bind fun v2=>(fE N g0 s1.2 au aB v2.Name [0,1,2,3]).bind fun v3=>bif (v3&&(aS .leq ((fU (⟨0,[],0⟩:ah) s1.2 v2.Name).wo) g0.now)) then ((fZ N g0 s1.2 au aB v2.Name 6).bind fun v4=>some (.inl ((IntKind.i64.wrap (s1.1+1)),v4))) else (some (.inl ((IntKind.i64.wrap (s1.1+1)),s1.2)))) else (some (.inr s1.2))
def lJ (N:Nat) (g0:af) (aC:(List (Str×ah))) (au:(List (Str×ai))) (aB:(List (Str×Str))):Option (List (Str×ah)) :=
  (eF (l9 N g0 au aB) N (0,aC)).bind fun o7=>(eF (mg N g0 au aB) N (true,o7)).bind fun o22=>some o22
def oQ (N:Nat) (x0:GPermitPlan) (s7:(Int×(List (Str×ah)))):Option ((Int×(List (Str×ah))) ⊕ (List (Str×ah))) :=
  bif (aS .lss s7.1 (List.length x0.aH:Int)) then ((idx x0.aH s7.1).bind fun v8=>some (.inl ((IntKind.i64.wrap (s7.1+1)),(qM s7.2 v8.Name (⟨0,[],v8.To⟩:ah))))) else (some (.inr s7.2))
def rV (N:Nat) (x0:GPermitPlan):Option ((Option (af×(List (Str×ah))×(List (Str×ai))×(List (Str×Str))))×(Int)) :=
  (rF N x0).bind fun v1=>bif (aS .neq v1 0) then (some (none,v1)) else ((xC N x0).bind fun v2=>(eF (oQ N x0) N (0,([]:(List (Str×ah))))).bind fun ZX=>(lJ N (⟨v2,0,[]⟩:af) ZX ([]:(List (Str×ai))) ([]:(List (Str×Str)))).bind fun v12=>some ((some ((⟨v2,0,[]⟩:af),v12,([]:(List (Str×ai))),([]:(List (Str×Str))))),0))
def rW (N:Nat):Option ((List bC)) :=
  some [(⟨([116,105,99,107]:Str),([]:Str),([]:(List Int)),(some 64)⟩:bC),(⟨([97,112,112,114,111,118,101]:Str),([110,112]:Str),[0],(some 65)⟩:bC),(⟨([111,112,101,110]:Str),([110,112]:Str),[1],(some 66)⟩:bC),(⟨([115,117,115,112,101,110,100]:Str),([110]:Str),[2],(some 67)⟩:bC),(⟨([114,101,115,117,109,101]:Str),([110,112]:Str),[3],(some 66)⟩:bC),(⟨([99,108,111,115,101]:Str),([110]:Str),[2,3],(some 68)⟩:bC),(⟨([99,97,110,99,101,108]:Str),([110]:Str),[0,1],(some 69)⟩:bC),(⟨([103,97,115]:Str),([115,111,103]:Str),([]:(List Int)),(some 70)⟩:bC),(⟨([101,110,116,101,114]:Str),([112,115]:Str),([]:(List Int)),(some 71)⟩:bC),(⟨([108,101,97,118,101]:Str),([112]:Str),([]:(List Int)),(some 72)⟩:bC),(⟨([97,108,97,114,109]:Str),([115]:Str),([]:(List Int)),(some 73)⟩:bC),(⟨([101,120,116,101,110,100]:Str),([110,112,116]:Str),[1,2,3],(some 74)⟩:bC)]
def ou (N:Nat) (x0:Int):Option (Bool) :=
  some ((aS .geq x0 0)&&(aS .leq x0 1000000))
def rE (N:Nat) (x0:(Option (af×Value×Value×Value))) (x1:GEvent):Option ((List Str)×Int) :=
  (rW N).bind fun v1=>bif (Option.isNone x0) then (some ([],1)) else ((bif (!((aS .lss x1.Op 0)||(aS .geq x1.Op (List.length v1:Int)))) then (ou N x1.At) else some false).bind fun v2=>bif (((aS .lss x1.Op 0)||(aS .geq x1.Op (List.length v1:Int)))||(!v2)) then (some ([],2)) else (none))
def uT (N:Nat) (x0:(List Str)) (x1:(List Str)) (s1:Int):Option (Int ⊕ (Unit ⊕ Bool)) :=
  bif (aS .lss s1 (List.length x0:Int)) then ((idx x0 s1).bind fun v2=>(idx x1 s1).bind fun v3=>bif (BA .neq v2 v3) then (some (.inr (Sum.inr false))) else (some (.inl (IntKind.i64.wrap (s1+1))))) else (some (.inr (Sum.inl ())))
def qJ (N:Nat) (x0:(List Str)) (x1:(List Str)):Option (Bool) :=
  bif (aS .neq (List.length x0:Int) (List.length x1:Int)) then (some false) else ((eF (uT N x0 x1) N 0).bind fun o6=>Sum.elim (fun l8=>some true) (fun r9=>some r9) o6)
def wZ (N:Nat) (g0:af) (aC:(List (Str×ah))) (au:(List (Str×ai))) (aB:(List (Str×Str))) (x1:GEvent):Option ax :=
  some (⟨[],0⟩:ax)
def kE (N:Nat) (x0:Int) (x1:(List Str)):Option (ax) :=
  some (⟨x1,x0⟩:ax)
def oM (N:Nat) (g0:af) (aC:(List (Str×ah))) (au:(List (Str×ai))) (aB:(List (Str×Str))) (x1:GEvent):Option ((List (Str×ah))×ax) :=
  (nM N x1.Person).bind fun v1=>bif (!v1) then ((kE N 4 ([]:(List Str))).bind fun v2=>some (aC,v2)) else (some ((qM aC x1.Name ({ ({ (fU (⟨0,[],0⟩:ah) aC x1.Name) with state:=1 }:ah) with IU:=x1.Person }:ah)),(⟨[],0⟩:ax)))
def kU (N:Nat) (g0:af) (aC:(List (Str×ah))) (au:(List (Str×ai))) (aB:(List (Str×Str))) (x1:aP):Option aP :=
  some x1
def sQ (N:Nat) (x0:cZ) (c0:Int) (c1:aP) (c2:aP):Option (Bool) :=
  some ((aS .leq c0 x0.Reach)&&(((aS .eql x0.A c1.Kind)&&(aS .eql x0.B c2.Kind))||((aS .eql x0.A c2.Kind)&&(aS .eql x0.B c1.Kind))))
def iK (N:Nat) (x0:(List cZ)) (x1:(cZ→Option Bool)) (s1:Int):Option (Int ⊕ (Unit ⊕ Int)) :=
  bif (aS .lss s1 (List.length x0:Int)) then ((idx x0 s1).bind fun v2=>(x1 v2).bind fun v3=>bif v3 then (some (.inr (Sum.inr s1))) else (some (.inl (IntKind.i64.wrap (s1+1))))) else (some (.inr (Sum.inl ())))
def jb (N:Nat) (x0:(List cZ)) (x1:(cZ→Option Bool)):Option (Int) :=
  (eF (iK N x0 x1) N 0).bind fun o6=>Sum.elim (fun l8=>some (-1)) (fun r9=>some r9) o6
def jJ (N:Nat) (x0:(List cZ)) (x1:(cZ→Option Bool)):Option (Bool) :=
  (jb N x0 x1).bind fun v1=>some (aS .geq v1 0)
def vk (N:Nat) (x0:GPermitPlan) (x1:aP) (x2:aP):Option (Bool) :=
  bif (BA .eql x1.Name x2.Name) then (some false) else ((qC N x0 x1.Space x2.Space).bind fun v1=>(jJ N x0.dR (fun y0=>sQ N y0 v1 x1 x2)).bind fun v2=>some v2)
def kC (N:Nat) (g0:af) (aC:(List (Str×ah))) (au:(List (Str×ai))) (aB:(List (Str×Str))) (x0:aP) (c1:aP):Option Bool :=
  (vk N g0.plan x0 c1).bind fun v1=>some v1
def fP (N:Nat) (g0:af) (aC:(List (Str×ah))) (au:(List (Str×ai))) (aB:(List (Str×Str))) (jS:aP) (s1:((List Str)×Int)):Option (((List Str)×Int) ⊕ (List Str)) :=
  bif (aS .lss s1.2 (List.length g0.plan.aH:Int)) then ((idx g0.plan.aH s1.2).bind fun v2=>(fE N g0 aC au aB v2.Name [2]).bind fun v3=>(bif v3 then (kC N g0 aC au aB v2 jS) else some false).bind fun v4=>bif (v3&&v4) then ((app s1.1 [v2.Name]).bind fun v5=>some (.inl (v5,(IntKind.i64.wrap (s1.2+1))))) else (some (.inl (s1.1,(IntKind.i64.wrap (s1.2+1)))))) else (some (.inr s1.1))
def iy (N:Nat) (g0:af) (aC:(List (Str×ah))) (au:(List (Str×ai))) (aB:(List (Str×Str))) (jS:aP):Option (List Str) :=
  (eF (fP N g0 aC au aB jS) N ([],0)).bind fun o8=>some o8
def kK (N:Nat) (g0:af) (aC:(List (Str×ah))) (au:(List (Str×ai))) (x0:Str) (c1:aP):Option Bool :=
  (qC N g0.plan x0 c1.Space).bind fun v1=>some (aS .leq v1 1)
def jm (N:Nat) (x0:(List Str)):Option ((List Str)):=QB x0
def gK (N:Nat) (g0:af) (aC:(List (Str×ah))) (au:(List (Str×ai))) (jS:aP) (s2:(List Str)) (p3:(Str×Str)):Option (List Str) :=
  (kK N g0 aC au p3.2 jS).bind fun v5=>bif v5 then ((app s2 [p3.1]).bind fun v6=>some v6) else (some s2)
def gY (N:Nat) (g0:af) (aC:(List (Str×ah))) (au:(List (Str×ai))) (aB:(List (Str×Str))) (jS:aP):Option (List Str) :=
  Hy aB fun q4p=>(J9 (gK N g0 aC au jS) q4p []).bind fun s2=>(jm N s2).bind fun v8=>some v8
def gu {S:Type} (N:Nat) (Y:S→bg→Option (S×Bool)) (o8:(List bg)) (s10:(Int×S)):Option ((Int×S) ⊕ (S ⊕ S)) :=
  bif (aS .lss s10.1 (List.length o8:Int)) then ((idx o8 s10.1).bind fun v11=>(bif (aS .gtr (List.length v11.Names:Int) 0) then (Y s10.2 v11) else some (s10.2,false)).bind fun v12=>bif ((aS .gtr (List.length v11.Names:Int) 0)&&(!v12.2)) then (some (.inr (Sum.inr v12.1))) else (some (.inl ((IntKind.i64.wrap (s10.1+1)),v12.1)))) else (some (.inr (Sum.inl s10.2)))
def iP {S:Type} (N:Nat) (Y:S→bg→Option (S×Bool)) (y0:S) (g0:af) (aC:(List (Str×ah))) (au:(List (Str×ai))) (aB:(List (Str×Str))) (c1:aP):Option S :=
  (bif (aS .lss g0.now c1.From) then (Y y0 (⟨2,[]⟩:bg)) else some (y0,false)).bind fun v1=>bif ((aS .lss g0.now c1.From)&&(!v1.2)) then (some v1.1) else ((jB N g0 aC au aB c1).bind fun v2=>(iy N g0 aC au aB c1).bind fun v3=>(kS N g0 aC au aB c1).bind fun v4=>((bif (aS .eql c1.Kind 3) then ((gY N g0 aC au aB c1).bind fun v5=>(app [(⟨18,v2⟩:bg),(⟨20,v3⟩:bg),(⟨21,v4⟩:bg)] [(⟨17,v5⟩:bg)]).bind fun v6=>some v6) else (some [(⟨18,v2⟩:bg),(⟨20,v3⟩:bg),(⟨21,v4⟩:bg)])):Option (List bg)).bind fun o8=>(eF (gu N Y o8) N (0,v1.1)).bind fun PW=>Sum.elim (fun l17=>some l17) (fun W9=>some W9) PW)
def jG (N:Nat) (s7:ax) (i8:bg):Option (ax×Option Nat) :=
  (kE N i8.Err i8.Names).bind fun v12=>some (v12,some 0)
def nT (N:Nat) (g0:af) (aC:(List (Str×ah))) (au:(List (Str×ai))) (aB:(List (Str×Str))) (x1:GEvent):Option ((List (Str×ah))×ax) :=
  (nM N x1.Person).bind fun v1=>bif (!v1) then ((kE N 4 ([]:(List Str))).bind fun v2=>some (aC,v2)) else (bif (BA .eql x1.Person ((fU (⟨0,[],0⟩:ah) aC x1.Name).IU)) then ((kE N 26 ([]:(List Str))).bind fun v3=>some (aC,v3)) else ((mQ N g0.plan x1.Name).bind fun v4=>(kU N g0 aC au aB v4.1).bind fun v5=>(iP N (yl (jG N) 1) ((⟨[],0⟩:ax),none) g0 aC au aB v5).bind fun ZF=>Jw ZF (fun Tz=>(fZ N g0 aC au aB x1.Name 2).bind fun v14=>some (v14,(⟨[],0⟩:ax))) (fun Tz=>some (aC,Tz))))
def uN (N:Nat) (g0:af) (aC:(List (Str×ah))) (au:(List (Str×ai))) (aB:(List (Str×Str))) (x1:GEvent):Option ((List (Str×ah))×ax) :=
  (fZ N g0 aC au aB x1.Name 3).bind fun v1=>some (v1,(⟨[],0⟩:ax))
def jZ (N:Nat) (x0:aP) (c0:aP):Option (Bool) :=
  (iJ N x0.Locks c0.Name).bind fun v1=>some v1
def kT (N:Nat) (g0:af) (aC:(List (Str×ah))) (au:(List (Str×ai))) (aB:(List (Str×Str))) (x1:(aP→Option Bool)) (s1:((List Str)×Int)):Option (((List Str)×Int) ⊕ (List Str)) :=
  bif (aS .lss s1.2 (List.length g0.plan.aH:Int)) then ((idx g0.plan.aH s1.2).bind fun v2=>(fE N g0 aC au aB v2.Name [2]).bind fun v3=>(bif v3 then (x1 v2) else some false).bind fun v4=>bif (v3&&v4) then ((app s1.1 [v2.Name]).bind fun v5=>some (.inl (v5,(IntKind.i64.wrap (s1.2+1))))) else (some (.inl (s1.1,(IntKind.i64.wrap (s1.2+1)))))) else (some (.inr s1.1))
def iG (N:Nat) (g0:af) (aC:(List (Str×ah))) (au:(List (Str×ai))) (aB:(List (Str×Str))) (x1:(aP→Option Bool)):Option (List Str) :=
  (eF (kT N g0 aC au aB x1) N ([],0)).bind fun o8=>some o8
def ku (N:Nat) (x0:aP) (c0:aP):Option (Bool) :=
  some (((aS .eql x0.Kind 1)&&(BA .eql x0.Space c0.Space))&&(BA .neq x0.Name c0.Name))
def kz (N:Nat) (x0:Str) (c0:aP):Option (Bool) :=
  some (BA .eql x0 c0.Space)
def ny (N:Nat) (x1:(Str→Option Bool)) (s2:(List Str)) (p3:(Str×Str)):Option (List Str) :=
  (x1 p3.2).bind fun v5=>bif v5 then ((app s2 [p3.1]).bind fun v6=>some v6) else (some s2)
def lX (N:Nat) (g0:af) (aC:(List (Str×ah))) (au:(List (Str×ai))) (aB:(List (Str×Str))) (x1:(Str→Option Bool)):Option (List Str) :=
  Hy aB fun q4p=>(J9 (ny N x1) q4p []).bind fun s2=>(jm N s2).bind fun v8=>some v8
def nH (N:Nat) (g0:af) (aC:(List (Str×ah))) (au:(List (Str×ai))) (aB:(List (Str×Str))) (x1:GEvent):Option ((List (Str×ah))×ax) :=
  (mQ N g0.plan x1.Name).bind fun v1=>(iY N g0.plan v1.1.Space).bind fun v2=>((bif (aS .eql v1.1.Kind 5) then ((iG N g0 aC au aB (fun y0=>jZ N y0 v1.1)).bind fun v3=>bif (aS .gtr (List.length v3:Int) 0) then ((kE N 20 v3).bind fun v4=>some (Sum.inr v4)) else (some (Sum.inl (⟨[],0⟩:ax)))) else ((bif (aS .eql v1.1.Kind 1) then (fE N g0 aC au aB v1.1.Name [2]) else some false).bind fun v6=>bif (((aS .eql v1.1.Kind 1)&&v6)&&v2.1.fG) then ((iG N g0 aC au aB (fun y0=>ku N y0 v1.1)).bind fun v7=>(lX N g0 aC au aB (fun y0=>kz N y0 v1.1)).bind fun v8=>bif ((aS .eql (List.length v7:Int) 0)&&(aS .gtr (List.length v8:Int) 0)) then ((kE N 21 v8).bind fun v9=>some (Sum.inr v9)) else (some (Sum.inl (⟨[],0⟩:ax)))) else (some (Sum.inl (⟨[],0⟩:ax))))):Option (ax ⊕ ax)).bind fun ZF=>Sum.elim (fun l15=>(fZ N g0 aC au aB x1.Name 4).bind fun v17=>some (v17,(⟨[],0⟩:ax))) (fun r16=>some (aC,r16)) ZF
def vV (N:Nat) (g0:af) (aC:(List (Str×ah))) (au:(List (Str×ai))) (aB:(List (Str×Str))) (x1:GEvent):Option ((List (Str×ah))×ax) :=
  (fZ N g0 aC au aB x1.Name 5).bind fun v1=>some (v1,(⟨[],0⟩:ax))
def qY (N:Nat) (g0:af) (aC:(List (Str×ah))) (au:(List (Str×ai))) (aB:(List (Str×Str))) (x1:GEvent):Option ((List (Str×ai))×ax) :=
  (iY N g0.plan x1.Space).bind fun v1=>bif (!v1.2) then ((kE N 6 ([]:(List Str))).bind fun v2=>some (au,v2)) else (bif ((((aS .lss x1.rU 0)||(aS .gtr x1.rU 1000))||(aS .lss x1.Mc 0))||(aS .gtr x1.Mc 1000)) then ((kE N 2 ([]:(List Str))).bind fun v3=>some (au,v3)) else (some ((qM au x1.Space (⟨g0.now,x1.rU,x1.Mc⟩:ai)),(⟨[],0⟩:ax))))
def eX (N:Nat) (x0:aP) (c0:Str):Option (Bool) :=
  some ((aS .eql x0.Kind 1)&&(BA .eql x0.Space c0))
def pF (N:Nat) (g0:af) (aC:(List (Str×ah))) (au:(List (Str×ai))) (aB:(List (Str×Str))) (x1:Str):Option Bool :=
  (iG N g0 aC au aB (fun y0=>eX N y0 x1)).bind fun v1=>some (aS .gtr (List.length v1:Int) 0)
def oK (N:Nat) (g0:af) (aC:(List (Str×ah))) (au:(List (Str×ai))) (aB:(List (Str×Str))) (x0:aP) (c1:dH):Option Bool :=
  (bif (aS .eql x0.Kind 3) then (qC N g0.plan x0.Space c1.Name) else some 0).bind fun v1=>some ((aS .eql x0.Kind 3)&&(aS .leq v1 1))
def iV (N:Nat) (g0:af) (aC:(List (Str×ah))) (au:(List (Str×ai))) (aB:(List (Str×Str))) (jS:dH) (s1:((List Str)×Int)):Option (((List Str)×Int) ⊕ (List Str)) :=
  bif (aS .lss s1.2 (List.length g0.plan.aH:Int)) then ((idx g0.plan.aH s1.2).bind fun v2=>(fE N g0 aC au aB v2.Name [2]).bind fun v3=>(bif v3 then (oK N g0 aC au aB v2 jS) else some false).bind fun v4=>bif (v3&&v4) then ((app s1.1 [v2.Name]).bind fun v5=>some (.inl (v5,(IntKind.i64.wrap (s1.2+1))))) else (some (.inl (s1.1,(IntKind.i64.wrap (s1.2+1)))))) else (some (.inr s1.1))
def kM (N:Nat) (g0:af) (aC:(List (Str×ah))) (au:(List (Str×ai))) (aB:(List (Str×Str))) (jS:dH):Option (List Str) :=
  (eF (iV N g0 aC au aB jS) N ([],0)).bind fun o8=>some o8
def qf (N:Nat) (g0:af) (aC:(List (Str×ah))) (au:(List (Str×ai))) (aB:(List (Str×Str))) (x1:GEvent):Option ((List (Str×Str))×ax) :=
  (nM N x1.Person).bind fun v1=>bif (!v1) then ((kE N 4 ([]:(List Str))).bind fun v2=>some (aB,v2)) else ((iY N g0.plan x1.Space).bind fun v3=>bif (!v3.2) then ((kE N 6 ([]:(List Str))).bind fun v4=>some (aB,v4)) else (bif (kJ aB x1.Person) then ((kE N 18 ([]:(List Str))).bind fun v5=>some (aB,v5)) else ((bif v3.1.fG then (pF N g0 aC au aB v3.1.Name) else some false).bind fun v6=>bif (v3.1.fG&&(!v6)) then ((kE N 21 ([]:(List Str))).bind fun v7=>some (aB,v7)) else ((kM N g0 aC au aB v3.1).bind fun v8=>bif (aS .gtr (List.length v8:Int) 0) then ((kE N 17 v8).bind fun v9=>some (aB,v9)) else (some ((qM aB x1.Person v3.1.Name),(⟨[],0⟩:ax)))))))
def qg (N:Nat) (g0:af) (aC:(List (Str×ah))) (au:(List (Str×ai))) (aB:(List (Str×Str))) (x1:GEvent):Option ((List (Str×Str))×ax) :=
  (nM N x1.Person).bind fun v1=>bif (!v1) then ((kE N 4 ([]:(List Str))).bind fun v2=>some (aB,v2)) else (bif (!(kJ aB x1.Person)) then ((kE N 6 ([]:(List Str))).bind fun v3=>some (aB,v3)) else (some ((Ho aB x1.Person),(⟨[],0⟩:ax))))
def oL (N:Nat) (g0:af) (aC:(List (Str×ah))) (au:(List (Str×ai))) (aB:(List (Str×Str))) (x0:aP) (c1:GEvent):Option Bool :=
  (bif (aS .neq x0.Kind 5) then (qC N g0.plan x0.Space c1.Space) else some 0).bind fun v1=>some ((aS .neq x0.Kind 5)&&(aS .leq v1 1))
def iW (N:Nat) (g0:af) (aC:(List (Str×ah))) (au:(List (Str×ai))) (aB:(List (Str×Str))) (jS:GEvent) (s1:((List Str)×Int)):Option (((List Str)×Int) ⊕ (List Str)) :=
  bif (aS .lss s1.2 (List.length g0.plan.aH:Int)) then ((idx g0.plan.aH s1.2).bind fun v2=>(fE N g0 aC au aB v2.Name [2]).bind fun v3=>(bif v3 then (oL N g0 aC au aB v2 jS) else some false).bind fun v4=>bif (v3&&v4) then ((app s1.1 [v2.Name]).bind fun v5=>some (.inl (v5,(IntKind.i64.wrap (s1.2+1))))) else (some (.inl (s1.1,(IntKind.i64.wrap (s1.2+1)))))) else (some (.inr s1.1))
def kN (N:Nat) (g0:af) (aC:(List (Str×ah))) (au:(List (Str×ai))) (aB:(List (Str×Str))) (jS:GEvent):Option (List Str) :=
  (eF (iW N g0 aC au aB jS) N ([],0)).bind fun o8=>some o8
def lN (N:Nat) (g0:af) (au:(List (Str×ai))) (aB:(List (Str×Str))) (v3:(List Str)) (s4:(Int×(List (Str×ah)))):Option ((Int×(List (Str×ah))) ⊕ (List (Str×ah))) :=
  bif (aS .lss s4.1 (List.length v3:Int)) then ((idx v3 s4.1).bind fun v5=>(fZ N g0 s4.2 au aB v5 3).bind fun v6=>some (.inl ((IntKind.i64.wrap (s4.1+1)),v6))) else (some (.inr s4.2))
def qh (N:Nat) (g0:af) (aC:(List (Str×ah))) (au:(List (Str×ai))) (aB:(List (Str×Str))) (x1:GEvent):Option ((List (Str×ah))×ax) :=
  (iY N g0.plan x1.Space).bind fun v1=>bif (!v1.2) then ((kE N 6 ([]:(List Str))).bind fun v2=>some (aC,v2)) else ((kN N g0 aC au aB x1).bind fun v3=>(eF (lN N g0 au aB v3) N (0,aC)).bind fun o8=>some (o8,(⟨[],0⟩:ax)))
def pG (N:Nat) (g0:af) (aC:(List (Str×ah))) (au:(List (Str×ai))) (aB:(List (Str×Str))) (x1:GEvent):Option ((List (Str×ah))×ax) :=
  (nM N x1.Person).bind fun v1=>bif (!v1) then ((kE N 4 ([]:(List Str))).bind fun v2=>some (aC,v2)) else (bif ((aS .leq x1.To ((fU (⟨0,[],0⟩:ah) aC x1.Name).wo))||(aS .gtr x1.To 1000000)) then ((kE N 2 ([]:(List Str))).bind fun v3=>some (aC,v3)) else (some ((qM aC x1.Name ({ (fU (⟨0,[],0⟩:ah) aC x1.Name) with wo:=x1.To }:ah)),(⟨[],0⟩:ax))))
def Gm (N:Nat) (g0:af) (aC:(List (Str×ah))) (au:(List (Str×ai))) (aB:(List (Str×Str))) (n:(Option Nat)) (x1:GEvent):Option ((List (Str×ah))×(List (Str×ai))×(List (Str×Str))×ax) :=
  bif decide (n=some 64) then ((wZ N g0 aC au aB x1).bind fun y=>some (aC,au,aB,y)) else (bif decide (n=some 65) then ((oM N g0 aC au aB x1).bind fun y=>some (y.1,au,aB,y.2)) else (bif decide (n=some 66) then ((nT N g0 aC au aB x1).bind fun y=>some (y.1,au,aB,y.2)) else (bif decide (n=some 67) then ((uN N g0 aC au aB x1).bind fun y=>some (y.1,au,aB,y.2)) else (bif decide (n=some 68) then ((nH N g0 aC au aB x1).bind fun y=>some (y.1,au,aB,y.2)) else (bif decide (n=some 69) then ((vV N g0 aC au aB x1).bind fun y=>some (y.1,au,aB,y.2)) else (bif decide (n=some 70) then ((qY N g0 aC au aB x1).bind fun y=>some (aC,y.1,aB,y.2)) else (bif decide (n=some 71) then ((qf N g0 aC au aB x1).bind fun y=>some (aC,au,y.1,y.2)) else (bif decide (n=some 72) then ((qg N g0 aC au aB x1).bind fun y=>some (aC,au,y.1,y.2)) else (bif decide (n=some 73) then ((qh N g0 aC au aB x1).bind fun y=>some (y.1,au,aB,y.2)) else (bif decide (n=some 74) then ((pG N g0 aC au aB x1).bind fun y=>some (y.1,au,aB,y.2)) else (none)))))))))))
def lI (N:Nat) (g0:af) (aC:(List (Str×ah))) (au:(List (Str×ai))) (aB:(List (Str×Str))) (x1:GEvent):Option (af×(List (Str×ah))×(List (Str×ai))×(List (Str×Str))×(List Str)×Int) :=
  (rW N).bind fun v1=>(bif (!((aS .lss x1.Op 0)||(aS .geq x1.Op (List.length v1:Int)))) then (ou N x1.At) else some false).bind fun v2=>bif (((aS .lss x1.Op 0)||(aS .geq x1.Op (List.length v1:Int)))||(!v2)) then (some (g0,aC,au,aB,[],2)) else (bif (aS .lss x1.At g0.now) then (some (g0,aC,au,aB,[],10)) else ((lJ N ({ g0 with now:=x1.At }:af) aC au aB).bind fun v3=>(idx v1 x1.Op).bind fun v4=>((bif (!(List.isEmpty v4.states)) then ((mQ N (({ g0 with now:=x1.At }:af).plan) x1.Name).bind fun v5=>bif (!v5.2) then (some (Sum.inr ([],6))) else ((fE N ({ g0 with now:=x1.At }:af) v3 au aB x1.Name v4.states).bind fun v6=>bif (!v6) then (some (Sum.inr ([],18))) else (some (Sum.inl ())))) else (some (Sum.inl ()))):Option (Unit ⊕ ((List Str)×Int))).bind fun ZX=>Sum.elim (fun l12=>(Gm N ({ g0 with now:=x1.At }:af) v3 au aB v4.Qo x1).bind fun v14=>bif (aS .neq v14.2.2.2.e 0) then (some (({ g0 with now:=x1.At }:af),v14.1,v14.2.1,v14.2.2.1,v14.2.2.2.names,v14.2.2.2.e)) else ((lJ N ({ g0 with now:=x1.At }:af) v14.1 v14.2.1 v14.2.2.1).bind fun v15=>(app (({ g0 with now:=x1.At }:af).done) [x1]).bind fun v16=>some (({ ({ g0 with now:=x1.At }:af) with done:=v16 }:af),v15,v14.2.1,v14.2.2.1,[],0))) (fun r13=>some (({ g0 with now:=x1.At }:af),v3,au,aB,r13.1,r13.2)) ZX))
def vT (N:Nat):Option (Bool) :=
  (CW N).bind fun v1=>(EU N v1 ([100,101,99,107]:Str) ([104,111,108,100]:Str)).bind fun v2=>(rV N v1).bind fun v3=>Bj v3 (fun VX=>(rE N (none:(Option (af×Value×Value×Value))) (⟨0,1,([119,101,108,100]:Str),[],([97,110,110]:Str),0,0,0⟩:GEvent)).bind fun v4=>(rE N (none:(Option (af×Value×Value×Value))) (⟨0,2,([119,101,108,100]:Str),[],([98,111,98]:Str),0,0,0⟩:GEvent)).bind fun v5=>(bif (((((aS .eql v2.2 0)&&(aS .eql v2.1 2))&&(aS .eql VX 0))&&(aS .eql v4.2 0))&&(aS .eql v5.2 21)) then (qJ N v5.1 [([116,97,110,107]:Str)]) else some false).bind fun v6=>some ((((((aS .eql v2.2 0)&&(aS .eql v2.1 2))&&(aS .eql VX 0))&&(aS .eql v4.2 0))&&(aS .eql v5.2 21))&&v6)) (fun wC VX=>(lI N wC.1 wC.2.1 wC.2.2.1 wC.2.2.2 (⟨0,1,([119,101,108,100]:Str),[],([97,110,110]:Str),0,0,0⟩:GEvent)).bind fun v12=>(lI N v12.1 v12.2.1 v12.2.2.1 v12.2.2.2.1 (⟨0,2,([119,101,108,100]:Str),[],([98,111,98]:Str),0,0,0⟩:GEvent)).bind fun v13=>(bif (((((aS .eql v2.2 0)&&(aS .eql v2.1 2))&&(aS .eql VX 0))&&(aS .eql v12.2.2.2.2.2 0))&&(aS .eql v13.2.2.2.2.2 21)) then (qJ N v13.2.2.2.2.1 [([116,97,110,107]:Str)]) else some false).bind fun v14=>some ((((((aS .eql v2.2 0)&&(aS .eql v2.1 2))&&(aS .eql VX 0))&&(aS .eql v12.2.2.2.2.2 0))&&(aS .eql v13.2.2.2.2.2 21))&&v14))
def jU (N:Nat) (x0:(List GEvent)):Option ((List GEvent)) :=
  (app ([]:(List GEvent)) x0).bind fun v1=>some v1
def pz (N:Nat) (g0:af) (aC:(List (Str×ah))) (au:(List (Str×ai))) (aB:(List (Str×Str))):Option (List GEvent) :=
  (jU N g0.done).bind fun v1=>some v1
def ug (N:Nat) (x0:Int):Option Str:=TW x0
def oP (N:Nat) (g0:GEvent) (x1:Int):Option (Option Nat) :=
  bif (aS .eql x1 111) then (some (some 5)) else (bif (aS .eql x1 103) then (some (some 6)) else (bif (aS .eql x1 116) then (some (some 7)) else (some (none:Option Nat))))
def uS (N:Nat) (g0:GEvent) (x1:Int):Option (Option Nat) :=
  bif (aS .eql x1 110) then (some (some 2)) else (bif (aS .eql x1 112) then (some (some 4)) else (some (some 3)))
def Ae (N:Nat) (x0:(List Str)) (x1:Str):Option Str:=Wn x0 x1
def jO (N:Nat) (x0:GEvent) (v4:bC) (s6:((List Str)×Int×Int)):Option (((List Str)×Int×Int) ⊕ (((List Str)×Int) ⊕ (Str×Int))) :=
  bif (aS .lss s6.2.2 (List.length v4.fields:Int)) then ((idx v4.fields s6.2.2).bind fun v7=>(oP N x0 ((UInt8.toNat v7:Nat):Int)).bind fun v8=>bif (Option.isSome v8) then ((v8).bind fun v9=>(GEvent.gI x0 v9).bind fun v10=>(ou N v10).bind fun v11=>bif (!v11) then (some (.inr (Sum.inr (([]:Str),2)))) else ((v8).bind fun v12=>(GEvent.gI x0 v12).bind fun v13=>(ug N v13).bind fun v14=>(app s6.1 [v14]).bind fun v15=>some (.inl (v15,s6.2.1,(IntKind.i64.wrap (s6.2.2+1)))))) else ((idx v4.fields s6.2.2).bind fun v17=>(uS N x0 ((UInt8.toNat v17:Nat):Int)).bind fun v18=>(v18).bind fun v19=>(GEvent.gS x0 v19).bind fun v20=>(nM N v20).bind fun v21=>bif (!v21) then ((app s6.1 [v20]).bind fun v22=>some (.inl (v22,4,(IntKind.i64.wrap (s6.2.2+1))))) else ((app s6.1 [v20]).bind fun v23=>some (.inl (v23,s6.2.1,(IntKind.i64.wrap (s6.2.2+1))))))) else (some (.inr (Sum.inl (s6.1,s6.2.1))))
def rQ (N:Nat) (x0:GEvent):Option (Str×Int) :=
  (rW N).bind fun v2=>(bif (!((aS .lss x0.Op 0)||(aS .geq x0.Op (List.length v2:Int)))) then (ou N x0.At) else some false).bind fun v3=>bif (((aS .lss x0.Op 0)||(aS .geq x0.Op (List.length v2:Int)))||(!v3)) then (some (([]:Str),2)) else ((idx v2 x0.Op).bind fun v4=>(ug N x0.At).bind fun v5=>(eF (jO N x0 v4) N ([v5,v4.word],0,0)).bind fun Z4=>Sum.elim (fun l29=>bif (aS .neq l29.2 0) then (some (([]:Str),l29.2)) else ((Ae N l29.1 ([32]:Str)).bind fun v31=>some (v31,0))) (fun r30=>some (r30.1,r30.2)) Z4)
def zq (N:Nat) (x0:Str) (x1:Str):Option (List Str):=RP x0 x1
def Ag (N:Nat) (x0:Str):Option (Int×Bool):=Wp x0
def tY (N:Nat) (x0:Str):Option (Int×Bool) :=
  (Ag N x0).bind fun v1=>(bif (!v1.2) then (ug N v1.1) else some []).bind fun v2=>(bif ((!v1.2)&&(BA .eql v2 x0)) then (ou N v1.1) else some false).bind fun v3=>some (v1.1,(((!v1.2)&&(BA .eql v2 x0))&&v3))
def jf (N:Nat) (v6:bC) (v9:(List Str)) (s10:(Bool×Int×GEvent)):Option ((Bool×Int×GEvent) ⊕ (Bool×GEvent)) :=
  bif (aS .lss s10.2.1 (List.length v9:Int)) then ((idx v9 s10.2.1).bind fun v11=>(idx v6.fields s10.2.1).bind fun v12=>(oP N s10.2.2 ((UInt8.toNat v12:Nat):Int)).bind fun v13=>bif (Option.isSome v13) then ((tY N v11).bind fun v14=>(v13).bind fun v15=>(GEvent.sI s10.2.2 v15 v14.1).bind fun v16=>some (.inl ((s10.1&&v14.2),(IntKind.i64.wrap (s10.2.1+1)),v16))) else ((idx v6.fields s10.2.1).bind fun v17=>(uS N s10.2.2 ((UInt8.toNat v17:Nat):Int)).bind fun v18=>(v18).bind fun v19=>(GEvent.sS s10.2.2 v19 v11).bind fun v20=>(bif s10.1 then (nM N v11) else some false).bind fun v21=>some (.inl ((s10.1&&v21),(IntKind.i64.wrap (s10.2.1+1)),v20)))) else (some (.inr (s10.1,s10.2.2)))
def lD (N:Nat) (v1:(List Str)) (v3:(Int×Bool)) (v4:(List bC)) (s5:(GEvent×Int)):Option ((GEvent×Int) ⊕ (GEvent ⊕ (GEvent×Int))) :=
  bif (aS .lss s5.2 (List.length v4:Int)) then ((idx v4 s5.2).bind fun v6=>(idx v1 1).bind fun v7=>bif (((BA .neq v6.word v7)||(!v3.2))||(aS .neq (List.length v1:Int) (IntKind.i64.wrap (2+(List.length v6.fields:Int))))) then (some (.inl (s5.1,(IntKind.i64.wrap (s5.2+1))))) else ((UL v1 2 (List.length v1:Int)).bind fun v9=>(eF (jf N v6 v9) N (true,0,(⟨v3.1,s5.2,[],[],[],0,0,0⟩:GEvent))).bind fun Qn=>bif Qn.1 then (some (.inr (Sum.inr (Qn.2,0)))) else (some (.inl (s5.1,(IntKind.i64.wrap (s5.2+1))))))) else (some (.inr (Sum.inl s5.1)))
def sO (N:Nat) (x0:Str):Option (GEvent×Int) :=
  (zq N x0 ([32]:Str)).bind fun v1=>bif (aS .lss (List.length v1:Int) 2) then (some ((⟨0,0,[],[],[],0,0,0⟩:GEvent),7)) else ((idx v1 0).bind fun v2=>(tY N v2).bind fun v3=>(rW N).bind fun v4=>(eF (lD N v1 v3 v4) N ((⟨0,0,[],[],[],0,0,0⟩:GEvent),0)).bind fun Z7=>Sum.elim (fun l32=>some ((⟨0,0,[],[],[],0,0,0⟩:GEvent),7)) (fun r33=>some (r33.1,r33.2)) Z7)
def kP (N:Nat) (g0:af) (aC:(List (Str×ah))) (au:(List (Str×ai))) (aB:(List (Str×Str))):Option Int :=
  some g0.now
def wH (N:Nat) (x0:(Option (af×Value×Value×Value))):Option ((Option (af×(List (Str×ah))×(List (Str×ai))×(List (Str×Str))))×Unit) :=
  none
def mM (N:Nat) (g0:af) (aC:(List (Str×ah))) (au:(List (Str×ai))) (aB:(List (Str×Str))):Option ((Option (af×(List (Str×ah))×(List (Str×ai))×(List (Str×Str))))×Unit) :=
  (jU N g0.done).bind fun v6=>some ((some (({ g0 with done:=v6 }:af),aC,au,aB)),())
def yC (N:Nat) (x1:(List GEvent)) (s2:Int):Option (Int ⊕ (Unit ⊕ ((Option (af×(List (Str×ah))×(List (Str×ai))×(List (Str×Str))))×(Int×Int)))) :=
  bif (aS .lss s2 (List.length x1:Int)) then ((idx x1 s2).bind fun v3=>(wH N (none:(Option (af×Value×Value×Value)))).bind fun v4=>Bj v4 (fun v4e=>(rE N (none:(Option (af×Value×Value×Value))) v3).bind fun v5=>bif (aS .neq v5.2 0) then (some (.inr (Sum.inr (none,(s2,v5.2))))) else (some (.inl (IntKind.i64.wrap (s2+1))))) (fun ER v4e=>(rE N (none:(Option (af×Value×Value×Value))) v3).bind fun v12=>bif (aS .neq v12.2 0) then (some (.inr (Sum.inr ((some (ER.1,ER.2.1,ER.2.2.1,ER.2.2.2)),(s2,v12.2))))) else (some (.inl (IntKind.i64.wrap (s2+1)))))) else (some (.inr (Sum.inl ())))
def kD (N:Nat) (x1:(List GEvent)) (s26:(Int×af×(List (Str×ah))×(List (Str×ai))×(List (Str×Str)))):Option ((Int×af×(List (Str×ah))×(List (Str×ai))×(List (Str×Str))) ⊕ ((af×(List (Str×ah))×(List (Str×ai))×(List (Str×Str))) ⊕ ((Option (af×(List (Str×ah))×(List (Str×ai))×(List (Str×Str))))×(Int×Int)))) :=
  bif (aS .lss s26.1 (List.length x1:Int)) then ((idx x1 s26.1).bind fun v27=>(mM N s26.2.1 s26.2.2.1 s26.2.2.2.1 s26.2.2.2.2).bind fun v28=>Bj v28 (fun v28e=>(lI N s26.2.1 s26.2.2.1 s26.2.2.2.1 s26.2.2.2.2 v27).bind fun v29=>bif (aS .neq v29.2.2.2.2.2 0) then (some (.inr (Sum.inr (none,(s26.1,v29.2.2.2.2.2))))) else (some (.inl ((IntKind.i64.wrap (s26.1+1)),v29.1,v29.2.1,v29.2.2.1,v29.2.2.2.1)))) (fun vU v28e=>(lI N s26.2.1 s26.2.2.1 s26.2.2.2.1 s26.2.2.2.2 v27).bind fun v36=>bif (aS .neq v36.2.2.2.2.2 0) then (some (.inr (Sum.inr ((some (vU.1,vU.2.1,vU.2.2.1,vU.2.2.2)),(s26.1,v36.2.2.2.2.2))))) else (some (.inl ((IntKind.i64.wrap (s26.1+1)),v36.1,v36.2.1,v36.2.2.1,v36.2.2.2.1))))) else (some (.inr (Sum.inl (s26.2.1,s26.2.2.1,s26.2.2.2.1,s26.2.2.2.2))))
def uZ (N:Nat) (x0:GPermitPlan) (x1:(List GEvent)):Option ((Option (af×(List (Str×ah))×(List (Str×ai))×(List (Str×Str))))×(Int×Int)) :=
  (rV N x0).bind fun v1=>Bj v1 (fun Jt=>bif (aS .neq Jt 0) then (some (none,(0,Jt))) else ((eF (yC N x1) N 0).bind fun PW=>Sum.elim (fun l17=>some (none,((List.length x1:Int),0))) (fun W9=>some W9) PW)) (fun CO Jt=>bif (aS .neq Jt 0) then (some (none,(0,Jt))) else ((eF (kD N x1) N (0,CO.1,CO.2.1,CO.2.2.1,CO.2.2.2)).bind fun o39=>Sum.elim (fun Xg=>some ((some (Xg.1,Xg.2.1,Xg.2.2.1,Xg.2.2.2)),((List.length x1:Int),0))) (fun r42=>some r42) o39))
def y5 (N:Nat) (x0:(Option (af×Value×Value×Value))):Option (Int) :=
  bif (Option.isNone x0) then (some 0) else (none)
def yD (N:Nat) (x0:(Option (af×Value×Value×Value))) (x1:(aP→Option Bool)):Option ((List Str)) :=
  none
def jd (N:Nat) (x0:aP):Option (Bool) :=
  some true
def yA (N:Nat) (x0:(Option (af×Value×Value×Value))):Option ((List Str)) :=
  bif (Option.isNone x0) then (some []) else ((yD N x0 (fun y0=>jd N y0)).bind fun v1=>some v1)
def lu (N:Nat) (g0:af) (aC:(List (Str×ah))) (au:(List (Str×ai))) (aB:(List (Str×Str))):Option (List Str) :=
  (iG N g0 aC au aB (fun y0=>jd N y0)).bind fun v1=>some v1
def qU (N:Nat) (x0:Str) (c0:(Option (af×Value×Value×Value))):Option (Bool) :=
  none
def wE (N:Nat) (x0:(Option (af×Value×Value×Value))) (x1:(Str→Option Bool)):Option ((List Str)) :=
  none
def wF (N:Nat) (x0:(Option (af×Value×Value×Value))):Option ((List Str)) :=
  bif (Option.isNone x0) then (some []) else ((wE N x0 (fun y0=>qU N y0 x0)).bind fun v1=>some v1)
def nS (N:Nat) (g0:af) (aC:(List (Str×ah))) (au:(List (Str×ai))) (x1:Str) (x2:(List Int)):Option Bool :=
  (mY N x2 ((fU (⟨0,[],0⟩:ah) aC x1).state)).bind fun v1=>some v1
def jK (N:Nat) (g0:af) (aC:(List (Str×ah))) (au:(List (Str×ai))) (x1:(aP→Option Bool)) (s1:((List Str)×Int)):Option (((List Str)×Int) ⊕ (List Str)) :=
  bif (aS .lss s1.2 (List.length g0.plan.aH:Int)) then ((idx g0.plan.aH s1.2).bind fun v2=>(nS N g0 aC au v2.Name [2]).bind fun v3=>(bif v3 then (x1 v2) else some false).bind fun v4=>bif (v3&&v4) then ((app s1.1 [v2.Name]).bind fun v5=>some (.inl (v5,(IntKind.i64.wrap (s1.2+1))))) else (some (.inl (s1.1,(IntKind.i64.wrap (s1.2+1)))))) else (some (.inr s1.1))
def lW (N:Nat) (g0:af) (aC:(List (Str×ah))) (au:(List (Str×ai))) (x1:(aP→Option Bool)):Option (List Str) :=
  (eF (jK N g0 aC au x1) N ([],0)).bind fun o8=>some o8
def lC (N:Nat) (g0:af) (aC:(List (Str×ah))) (au:(List (Str×ai))) (x1:Str):Option Bool :=
  (lW N g0 aC au (fun y0=>eX N y0 x1)).bind fun v1=>some (aS .gtr (List.length v1:Int) 0)
def lK (N:Nat) (g0:af) (aC:(List (Str×ah))) (au:(List (Str×ai))) (x0:Str):Option Bool :=
  (iY N g0.plan x0).bind fun v1=>(bif v1.1.fG then (lC N g0 aC au x0) else some false).bind fun v2=>some (v1.1.fG&&(!v2))
def gW (N:Nat) (g0:af) (aC:(List (Str×ah))) (au:(List (Str×ai))) (s2:(List Str)) (p3:(Str×Str)):Option (List Str) :=
  (lK N g0 aC au p3.2).bind fun v5=>bif v5 then ((app s2 [p3.1]).bind fun v6=>some v6) else (some s2)
def iq (N:Nat) (g0:af) (aC:(List (Str×ah))) (au:(List (Str×ai))) (aB:(List (Str×Str))):Option (List Str) :=
  Hy aB fun q4p=>(J9 (gW N g0 aC au) q4p []).bind fun s2=>(jm N s2).bind fun v8=>some v8
def jP (N:Nat) (g0:af) (aC:(List (Str×ah))) (au:(List (Str×ai))) (aB:(List (Str×Str))):Option (List Str) :=
  (iq N g0 aC au aB).bind fun v1=>some v1
def lU (N:Nat) (g0:af) (aC:(List (Str×ah))) (au:(List (Str×ai))) (aB:(List (Str×Str))) (x1:Str):Option (Int×Int) :=
  bif (!(kJ aC x1)) then (some (0,6)) else (some ((fU (⟨0,[],0⟩:ah) aC x1).state,0))
def di (N:Nat) (s2:(List bg)) (i3:bg):Option ((List bg)×Option Nat) :=
  (app s2 [i3]).bind fun v7=>some (v7,none)
def eU (N:Nat) (g0:af) (aC:(List (Str×ah))) (au:(List (Str×ai))) (aB:(List (Str×Str))) (jS:aP):Option (List bg) :=
  (iP N (yl (di N) 0) (([]:(List bg)),none) g0 aC au aB jS).bind fun o8=>Jw o8 (fun UE=>some UE) (fun UE=>none)
def gV (N:Nat) (g0:af) (aC:(List (Str×ah))) (au:(List (Str×ai))) (aB:(List (Str×Str))) (NS:aP):Option (List bg) :=
  (eU N g0 aC au aB NS).bind fun v1=>some v1
def mG (N:Nat) (g0:af) (aC:(List (Str×ah))) (au:(List (Str×ai))) (aB:(List (Str×Str))) (x1:Str):Option ((List bg)×Int) :=
  (mQ N g0.plan x1).bind fun v1=>bif (!v1.2) then (some ([],6)) else ((kU N g0 aC au aB v1.1).bind fun v2=>(gV N g0 aC au aB v2).bind fun v3=>some (v3,0))
def rC (N:Nat) (x0:(List bg)) (x1:(List bg)) (s1:Int):Option (Int ⊕ (Unit ⊕ Bool)) :=
  bif (aS .lss s1 (List.length x0:Int)) then ((idx x0 s1).bind fun v2=>(idx x1 s1).bind fun v3=>(bif (!(aS .neq v2.Err v3.Err)) then (idx x0 s1) else some (⟨0,[]⟩:bg)).bind fun v4=>(bif (!(aS .neq v2.Err v3.Err)) then (idx x1 s1) else some (⟨0,[]⟩:bg)).bind fun v5=>(bif (!(aS .neq v2.Err v3.Err)) then (qJ N v4.Names v5.Names) else some false).bind fun v6=>bif ((aS .neq v2.Err v3.Err)||(!v6)) then (some (.inr (Sum.inr false))) else (some (.inl (IntKind.i64.wrap (s1+1))))) else (some (.inr (Sum.inl ())))
def xw (N:Nat) (x0:(List bg)) (x1:(List bg)):Option (Bool) :=
  bif (aS .neq (List.length x0:Int) (List.length x1:Int)) then (some false) else ((eF (rC N x0 x1) N 0).bind fun o9=>Sum.elim (fun l11=>some true) (fun r12=>some r12) o9)
def qc (N:Nat) (x0:GPermitPlan) (jX:(af×(List (Str×ah))×(List (Str×ai))×(List (Str×Str)))) (iU:(af×(List (Str×ah))×(List (Str×ai))×(List (Str×Str)))) (s53:Int):Option (Int ⊕ (Unit ⊕ Bool)) :=
  bif (aS .lss s53 (List.length x0.aH:Int)) then ((idx x0.aH s53).bind fun v54=>(lU N jX.1 jX.2.1 jX.2.2.1 jX.2.2.2 v54.Name).bind fun v55=>(idx x0.aH s53).bind fun v56=>(lU N iU.1 iU.2.1 iU.2.2.1 iU.2.2.2 v56.Name).bind fun v57=>(idx x0.aH s53).bind fun v58=>(mG N jX.1 jX.2.1 jX.2.2.1 jX.2.2.2 v58.Name).bind fun v59=>(idx x0.aH s53).bind fun v60=>(mG N iU.1 iU.2.1 iU.2.2.1 iU.2.2.2 v60.Name).bind fun v61=>(bif (!((aS .neq (IntKind.i64.wrap ((IntKind.i64.wrap ((IntKind.i64.wrap (v55.2+v57.2))+v59.2))+v61.2)) 0)||(aS .neq v55.1 v57.1))) then (xw N v59.1 v61.1) else some false).bind fun v62=>bif (((aS .neq (IntKind.i64.wrap ((IntKind.i64.wrap ((IntKind.i64.wrap (v55.2+v57.2))+v59.2))+v61.2)) 0)||(aS .neq v55.1 v57.1))||(!v62)) then (some (.inr (Sum.inr false))) else (some (.inl (IntKind.i64.wrap (s53+1))))) else (some (.inr (Sum.inl ())))
def oq (N:Nat) (v16:(List GEvent)) (ZE:((List GEvent)×Int)):Option (((List GEvent)×Int) ⊕ ((List GEvent) ⊕ Bool)) :=
  bif (aS .lss ZE.2 (List.length v16:Int)) then ((idx v16 ZE.2).bind fun v18=>(rQ N v18).bind fun v19=>(sO N v19.1).bind fun v20=>bif ((aS .neq v19.2 0)||(aS .neq v20.2 0)) then (some (.inr (Sum.inr false))) else ((app ZE.1 [v20.1]).bind fun v21=>some (.inl (v21,(IntKind.i64.wrap (ZE.2+1)))))) else (some (.inr (Sum.inl ZE.1)))
def pY (N:Nat) (x1:(List GEvent)) (s10:(Int×af×(List (Str×ah))×(List (Str×ai))×(List (Str×Str)))):Option ((Int×af×(List (Str×ah))×(List (Str×ai))×(List (Str×Str))) ⊕ (af×(List (Str×ah))×(List (Str×ai))×(List (Str×Str)))) :=
  bif (aS .lss s10.1 (List.length x1:Int)) then ((idx x1 s10.1).bind fun v11=>(lI N s10.2.1 s10.2.2.1 s10.2.2.2.1 s10.2.2.2.2 v11).bind fun v12=>some (.inl ((IntKind.i64.wrap (s10.1+1)),v12.1,v12.2.1,v12.2.2.1,v12.2.2.2.1))) else (some (.inr (s10.2.1,s10.2.2.1,s10.2.2.2.1,s10.2.2.2.2)))
def xU (N:Nat) (x0:GPermitPlan) (x1:(List GEvent)):Option (Bool) :=
  (yH N x0).bind fun v1=>bif ((!v1)||(aS .gtr (List.length x1:Int) 30)) then ((vT N).bind fun v2=>some v2) else ((rV N x0).bind fun v3=>Bj v3 (fun VX=>some false) (fun wC VX=>bif (false||(aS .neq VX 0)) then (some false) else ((eF (pY N x1) N (0,wC.1,wC.2.1,wC.2.2.1,wC.2.2.2)).bind fun jX=>(pz N jX.1 jX.2.1 jX.2.2.1 jX.2.2.2).bind fun v16=>(eF (oq N v16) N ([],0)).bind fun Qn=>Sum.elim (fun l26=>(kP N jX.1 jX.2.1 jX.2.2.1 jX.2.2.2).bind fun v28=>(app l26 [(⟨v28,0,[],[],[],0,0,0⟩:GEvent)]).bind fun v29=>(uZ N x0 v29).bind fun v30=>Bj v30 (fun mD=>(bif (!true) then (y5 N (none:(Option (af×Value×Value×Value)))) else some 0).bind fun v31=>(bif (!true) then (kP N jX.1 jX.2.1 jX.2.2.1 jX.2.2.2) else some 0).bind fun v32=>(bif (!true) then (yA N (none:(Option (af×Value×Value×Value)))) else some []).bind fun v33=>(bif (!true) then (lu N jX.1 jX.2.1 jX.2.2.1 jX.2.2.2) else some []).bind fun v34=>(bif (!true) then (qJ N v33 v34) else some false).bind fun v35=>(bif (!true) then (wF N (none:(Option (af×Value×Value×Value)))) else some []).bind fun v36=>(bif (!true) then (jP N jX.1 jX.2.1 jX.2.2.1 jX.2.2.2) else some []).bind fun v37=>(bif (!true) then (qJ N v36 v37) else some false).bind fun v38=>some false) (fun iU mD=>(bif (!((false||(aS .neq mD.1 (List.length v29:Int)))||(aS .neq mD.2 0))) then (kP N iU.1 iU.2.1 iU.2.2.1 iU.2.2.2) else some 0).bind fun v45=>(bif (!((false||(aS .neq mD.1 (List.length v29:Int)))||(aS .neq mD.2 0))) then (kP N jX.1 jX.2.1 jX.2.2.1 jX.2.2.2) else some 0).bind fun v46=>(bif (!(((false||(aS .neq mD.1 (List.length v29:Int)))||(aS .neq mD.2 0))||(aS .neq v45 v46))) then (lu N iU.1 iU.2.1 iU.2.2.1 iU.2.2.2) else some []).bind fun v47=>(bif (!(((false||(aS .neq mD.1 (List.length v29:Int)))||(aS .neq mD.2 0))||(aS .neq v45 v46))) then (lu N jX.1 jX.2.1 jX.2.2.1 jX.2.2.2) else some []).bind fun v48=>(bif (!(((false||(aS .neq mD.1 (List.length v29:Int)))||(aS .neq mD.2 0))||(aS .neq v45 v46))) then (qJ N v47 v48) else some false).bind fun v49=>(bif (!((((false||(aS .neq mD.1 (List.length v29:Int)))||(aS .neq mD.2 0))||(aS .neq v45 v46))||(!v49))) then (jP N iU.1 iU.2.1 iU.2.2.1 iU.2.2.2) else some []).bind fun v50=>(bif (!((((false||(aS .neq mD.1 (List.length v29:Int)))||(aS .neq mD.2 0))||(aS .neq v45 v46))||(!v49))) then (jP N jX.1 jX.2.1 jX.2.2.1 jX.2.2.2) else some []).bind fun v51=>(bif (!((((false||(aS .neq mD.1 (List.length v29:Int)))||(aS .neq mD.2 0))||(aS .neq v45 v46))||(!v49))) then (qJ N v50 v51) else some false).bind fun v52=>bif (((((false||(aS .neq mD.1 (List.length v29:Int)))||(aS .neq mD.2 0))||(aS .neq v45 v46))||(!v49))||(!v52)) then (some false) else ((eF (qc N x0 jX iU) N 0).bind fun o65=>Sum.elim (fun l67=>(vT N).bind fun v69=>some v69) (fun r68=>some r68) o65))) (fun r27=>some r27) Qn)))
end
end Go.KB
