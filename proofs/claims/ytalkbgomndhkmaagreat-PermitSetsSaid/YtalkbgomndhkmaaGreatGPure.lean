/- The functions as plain Lean functions. Printed by a program. No condition. -/
import Derived.Test.YtalkbgomndhkmaaGreatGTypes
import Derived.Test.YtalkbgomndhkmaaGreatKSos
import Derived.Test.YtalkbgomndhkmaaGreatKSg
namespace Go.KB
set_option linter.unusedVariables false
noncomputable section
def nG (N:Nat) (x0:GPermitPlan) (s10:Int):Option (Int ⊕ (Unit ⊕ Bool)) :=
  bif (aJ .lss s10 (List.length x0.ay:Int)) then ((idx x0.ay s10).bind fun v11=>(bif (!(aJ .gtr (List.length v11.Locks:Int) 20)) then (idx x0.ay s10) else some (⟨[],0,[],0,0,[]⟩:aF)).bind fun v12=>bif ((aJ .gtr (List.length v11.Locks:Int) 20)||(aJ .gtr (List.length v12.Name:Int) 40)) then (some (.inr (Sum.inr true))) else (some (.inl (IntKind.i64.wrap (s10+1))))) else (some (.inr (Sum.inl ())))
def nD (N:Nat) (x0:GPermitPlan) (s1:Int):Option (Int ⊕ (Unit ⊕ Bool)) :=
  bif (aJ .lss s1 (List.length x0.bU:Int)) then ((idx x0.bU s1).bind fun v2=>(bif (!(aJ .gtr (List.length v2.Next:Int) 40)) then (idx x0.bU s1) else some (⟨[],false,[]⟩:bV)).bind fun v3=>bif ((aJ .gtr (List.length v2.Next:Int) 40)||(aJ .gtr (List.length v3.Name:Int) 40)) then (some (.inr (Sum.inr true))) else (some (.inl (IntKind.i64.wrap (s1+1))))) else (some (.inr (Sum.inl ())))
def vH (N:Nat) (x0:GPermitPlan):Option (Bool) :=
  bif (((aJ .gtr (List.length x0.bU:Int) 40)||(aJ .gtr (List.length x0.dm:Int) 40))||(aJ .gtr (List.length x0.ay:Int) 30)) then (some true) else ((dh (nD N x0) N 0).bind fun o6=>Sum.elim (fun l8=>(dh (nG N x0) N 0).bind fun Vj=>Sum.elim (fun l17=>some false) (fun r18=>some r18) Vj) (fun r9=>some r9) o6)
def yC (N:Nat) (x0:Str) (s1:Int):Option (Int ⊕ (Unit ⊕ Bool)) :=
  bif (aJ .lss s1 (List.length x0:Int)) then ((idx x0 s1).bind fun v2=>bif ((!(((aJ .geq ((UInt8.toNat v2:Nat):Int) 97)&&(aJ .leq ((UInt8.toNat v2:Nat):Int) 122))||((aJ .geq ((UInt8.toNat v2:Nat):Int) 65)&&(aJ .leq ((UInt8.toNat v2:Nat):Int) 90))))&&((aJ .eql s1 0)||((aJ .neq ((UInt8.toNat v2:Nat):Int) 45)&&((aJ .lss ((UInt8.toNat v2:Nat):Int) 48)||(aJ .gtr ((UInt8.toNat v2:Nat):Int) 57))))) then (some (.inr (Sum.inr false))) else (some (.inl (IntKind.i64.wrap (s1+1))))) else (some (.inr (Sum.inl ())))
def wM (N:Nat) (x0:Str):Option (Bool) :=
  bif ((aJ .lss (List.length x0:Int) 1)||(aJ .gtr (List.length x0:Int) 12)) then (some false) else ((dh (yC N x0) N 0).bind fun o5=>Sum.elim (fun l7=>some true) (fun r8=>some r8) o5)
def uD (N:Nat) (x0:GPermitPlan) (x1:Str) (s1:Int):Option (Int ⊕ (Unit ⊕ Int)) :=
  bif (aJ .lss s1 (List.length x0.bU:Int)) then ((idx x0.bU s1).bind fun v2=>bif (zY .eql v2.Name x1) then (some (.inr (Sum.inr s1))) else (some (.inl (IntKind.i64.wrap (s1+1))))) else (some (.inr (Sum.inl ())))
def oZ (N:Nat) (x0:GPermitPlan) (x1:Str):Option (Int) :=
  (dh (uD N x0 x1) N 0).bind fun o5=>Sum.elim (fun l7=>some (-1)) (fun r8=>some r8) o5
def uF (N:Nat) (x0:GPermitPlan) (x1:Int) (x2:Str):Option (Bool) :=
  (oZ N x0 x2).bind fun v1=>some ((aJ .geq v1 0)&&(aJ .lss v1 x1))
def lC (N:Nat) (x0:GPermitPlan) (s15:Int) (s16:Int):Option (Int ⊕ (Unit ⊕ Int)) :=
  (idx x0.bU s15).bind fun v17=>bif (aJ .lss s16 (List.length v17.Next:Int)) then ((idx x0.bU s15).bind fun v18=>(idx v18.Next s16).bind fun v19=>(oZ N x0 v19).bind fun v20=>bif (aJ .lss v20 0) then (some (.inr (Sum.inr 6))) else ((idx x0.bU s15).bind fun v21=>(idx v21.Next s16).bind fun v22=>(idx x0.bU s15).bind fun v23=>bif (zY .eql v22 v23.Name) then (some (.inr (Sum.inr 3))) else (some (.inl (IntKind.i64.wrap (s16+1)))))) else (some (.inr (Sum.inl ())))
def lu (N:Nat) (x0:GPermitPlan) (s15:Int):Option (Int ⊕ (Unit ⊕ Int)) :=
  bif (aJ .lss s15 (List.length x0.bU:Int)) then ((dh (lC N x0 s15) N 0).bind fun o27=>Sum.elim (fun l29=>some (.inl (IntKind.i64.wrap (s15+1)))) (fun r30=>some (.inr (Sum.inr r30))) o27) else (some (.inr (Sum.inl ())))
def lq (N:Nat) (x0:GPermitPlan) (s1:Int):Option (Int ⊕ (Unit ⊕ Int)) :=
  bif (aJ .lss s1 (List.length x0.bU:Int)) then ((idx x0.bU s1).bind fun v2=>(wM N v2.Name).bind fun v3=>bif (!v3) then (some (.inr (Sum.inr 4))) else ((idx x0.bU s1).bind fun v4=>(uF N x0 s1 v4.Name).bind fun v5=>bif v5 then (some (.inr (Sum.inr 5))) else ((idx x0.bU s1).bind fun v6=>bif (aJ .gtr (List.length v6.Next:Int) 30) then (some (.inr (Sum.inr 8))) else (some (.inl (IntKind.i64.wrap (s1+1))))))) else (some (.inr (Sum.inl ())))
def qo (N:Nat) (x0:GPermitPlan):Option (Int) :=
  (dh (lq N x0) N 0).bind fun Qj=>Sum.elim (fun l13=>(dh (lu N x0) N 0).bind fun o33=>Sum.elim (fun l35=>some 0) (fun r36=>some r36) o33) (fun VR=>some VR) Qj
def wz (N:Nat) (x0:Int):Option (Bool) :=
  some ((aJ .geq x0 0)&&(aJ .leq x0 5))
def su (N:Nat) (x0:GPermitPlan) (x1:Str) (s1:Int):Option (Int ⊕ (Unit ⊕ Int)) :=
  bif (aJ .lss s1 (List.length x0.ay:Int)) then ((idx x0.ay s1).bind fun v2=>bif (zY .eql v2.Name x1) then (some (.inr (Sum.inr s1))) else (some (.inl (IntKind.i64.wrap (s1+1))))) else (some (.inr (Sum.inl ())))
def qU (N:Nat) (x0:GPermitPlan) (x1:Str):Option (Int) :=
  (dh (su N x0 x1) N 0).bind fun o5=>Sum.elim (fun l7=>some (-1)) (fun r8=>some r8) o5
def nJ (N:Nat) (x0:GPermitPlan) (v29:aF) (s30:Int):Option (Int ⊕ (Unit ⊕ Int)) :=
  bif (aJ .lss s30 (List.length v29.Locks:Int)) then ((idx v29.Locks s30).bind fun v31=>(qU N x0 v31).bind fun v32=>bif (aJ .lss v32 0) then (some (.inr (Sum.inr 6))) else ((idx x0.ay v32).bind fun v33=>bif ((aJ .neq v33.Kind 5)||(aJ .eql v29.Kind 5)) then (some (.inr (Sum.inr 3))) else (some (.inl (IntKind.i64.wrap (s30+1)))))) else (some (.inr (Sum.inl ())))
def nI (N:Nat) (x0:GPermitPlan) (VX:Int):Option (Int ⊕ (Unit ⊕ Int)) :=
  bif (aJ .lss VX (List.length x0.ay:Int)) then ((idx x0.ay VX).bind fun v29=>(dh (nJ N x0 v29) N 0).bind fun o37=>Sum.elim (fun l39=>some (.inl (IntKind.i64.wrap (VX+1)))) (fun r40=>some (.inr (Sum.inr r40))) o37) else (some (.inr (Sum.inl ())))
def nH (N:Nat) (x0:GPermitPlan) (s12:Int):Option (Int ⊕ (Unit ⊕ Int)) :=
  bif (aJ .lss s12 (List.length x0.ay:Int)) then ((idx x0.ay s12).bind fun v13=>(wM N v13.Name).bind fun v14=>bif (!v14) then (some (.inr (Sum.inr 4))) else ((qU N x0 v13.Name).bind fun v15=>bif (aJ .lss v15 s12) then (some (.inr (Sum.inr 5))) else ((wz N v13.Kind).bind fun v16=>bif ((((!v16)||(aJ .lss v13.From 0))||(aJ .geq v13.From v13.To))||(aJ .gtr v13.To 1000000)) then (some (.inr (Sum.inr 2))) else ((oZ N x0 v13.Space).bind fun v17=>bif (aJ .lss v17 0) then (some (.inr (Sum.inr 6))) else (bif (aJ .gtr (List.length v13.Locks:Int) 10) then (some (.inr (Sum.inr 8))) else (some (.inl (IntKind.i64.wrap (s12+1))))))))) else (some (.inr (Sum.inl ())))
def sD (N:Nat) (x0:GPermitPlan) (s2:Int):Option (Int ⊕ (Unit ⊕ Int)) :=
  bif (aJ .lss s2 (List.length x0.dm:Int)) then ((idx x0.dm s2).bind fun v3=>(wz N v3.A).bind fun v4=>(bif (!(!v4)) then (wz N v3.B) else some false).bind fun v5=>bif ((((!v4)||(!v5))||(aJ .lss v3.Reach 0))||(aJ .gtr v3.Reach 2)) then (some (.inr (Sum.inr 2))) else (some (.inl (IntKind.i64.wrap (s2+1))))) else (some (.inr (Sum.inl ())))
def pU (N:Nat) (x0:GPermitPlan):Option (Int) :=
  bif (((aJ .gtr (List.length x0.bU:Int) 30)||(aJ .gtr (List.length x0.dm:Int) 30))||(aJ .gtr (List.length x0.ay:Int) 20)) then (some 8) else (bif ((aJ .lss x0.dX 1)||(aJ .gtr x0.dX 10000)) then (some 2) else ((qo N x0).bind fun v1=>bif (aJ .neq v1 0) then (some v1) else ((dh (sD N x0) N 0).bind fun o8=>Sum.elim (fun l10=>(dh (nH N x0) N 0).bind fun Vk=>Sum.elim (fun l26=>(dh (nI N x0) N 0).bind fun o43=>Sum.elim (fun l45=>some 0) (fun r46=>some r46) o43) (fun r27=>some r27) Vk) (fun r11=>some r11) o8)))
def yD (N:Nat):Option ((List bG)) :=
  some [(⟨0,2,1⟩:bG),(⟨3,0,1⟩:bG),(⟨3,1,1⟩:bG),(⟨3,2,1⟩:bG),(⟨3,3,1⟩:bG),(⟨4,4,0⟩:bG)]
def zA (N:Nat):Option (GPermitPlan) :=
  (yD N).bind fun v1=>some (⟨[(⟨([100,101,99,107]:Str),false,[([116,97,110,107]:Str)]⟩:bV),(⟨([116,97,110,107]:Str),true,[]⟩:bV),(⟨([104,111,108,100]:Str),true,[([116,97,110,107]:Str)]⟩:bV)],v1,[(⟨([119,101,108,100]:Str),0,([100,101,99,107]:Str),0,600,[]⟩:aF),(⟨([103,111]:Str),1,([116,97,110,107]:Str),0,600,[([112,117,109,112]:Str)]⟩:aF),(⟨([112,97,105,110,116]:Str),2,([104,111,108,100]:Str),0,600,[]⟩:aF),(⟨([112,117,109,112]:Str),5,([116,97,110,107]:Str),0,600,[]⟩:aF)],60⟩:GPermitPlan)
def uZ (N:Nat) (x0:Int):Option (Bool) :=
  some (((aJ .geq x0 97)&&(aJ .leq x0 122))||((aJ .geq x0 65)&&(aJ .leq x0 90)))
def oV (N:Nat) (x0:Str) (s3:Int):Option (Int ⊕ (Unit ⊕ Bool)) :=
  bif (aJ .lss s3 (List.length x0:Int)) then ((idx x0 s3).bind fun v4=>(uZ N ((UInt8.toNat v4:Nat):Int)).bind fun v5=>bif (((!v5)&&(aJ .neq ((UInt8.toNat v4:Nat):Int) 45))&&((aJ .lss ((UInt8.toNat v4:Nat):Int) 48)||(aJ .gtr ((UInt8.toNat v4:Nat):Int) 57))) then (some (.inr (Sum.inr false))) else (some (.inl (IntKind.i64.wrap (s3+1))))) else (some (.inr (Sum.inl ())))
def mG (N:Nat) (x0:Str):Option (Bool) :=
  (bif (!((aJ .lss (List.length x0:Int) 1)||(aJ .gtr (List.length x0:Int) 12))) then (idx x0 0) else some 0).bind fun v1=>(bif (!((aJ .lss (List.length x0:Int) 1)||(aJ .gtr (List.length x0:Int) 12))) then (uZ N ((UInt8.toNat v1:Nat):Int)) else some false).bind fun v2=>bif (((aJ .lss (List.length x0:Int) 1)||(aJ .gtr (List.length x0:Int) 12))||(!v2)) then (some false) else ((dh (oV N x0) N 0).bind fun o8=>Sum.elim (fun l10=>some true) (fun r11=>some r11) o8)
def kT (N:Nat) (l10:(List (Str×Bool))) (v13:bV) (s14:Int):Option (Int ⊕ (Unit ⊕ Int)) :=
  bif (aJ .lss s14 (List.length v13.Next:Int)) then ((idx v13.Next s14).bind fun v15=>bif (!(gQ false l10 v15)) then (some (.inr (Sum.inr 6))) else (bif (zY .eql v15 v13.Name) then (some (.inr (Sum.inr 3))) else (some (.inl (IntKind.i64.wrap (s14+1)))))) else (some (.inr (Sum.inl ())))
def kS (N:Nat) (x0:GPermitPlan) (l10:(List (Str×Bool))) (s12:Int):Option (Int ⊕ (Unit ⊕ Int)) :=
  bif (aJ .lss s12 (List.length x0.bU:Int)) then ((idx x0.bU s12).bind fun v13=>(dh (kT N l10 v13) N 0).bind fun U4=>Sum.elim (fun l21=>some (.inl (IntKind.i64.wrap (s12+1)))) (fun r22=>some (.inr (Sum.inr r22))) U4) else (some (.inr (Sum.inl ())))
def kR (N:Nat) (x0:GPermitPlan) (s1:((List (Str×Bool))×Int)):Option (((List (Str×Bool))×Int) ⊕ ((List (Str×Bool)) ⊕ Int)) :=
  bif (aJ .lss s1.2 (List.length x0.bU:Int)) then ((idx x0.bU s1.2).bind fun v2=>(mG N v2.Name).bind fun v3=>bif (!v3) then (some (.inr (Sum.inr 4))) else (bif (gQ false s1.1 v2.Name) then (some (.inr (Sum.inr 5))) else (bif (aJ .gtr (List.length v2.Next:Int) 30) then (some (.inr (Sum.inr 8))) else (some (.inl ((ql s1.1 v2.Name true),(IntKind.i64.wrap (s1.2+1)))))))) else (some (.inr (Sum.inl s1.1)))
def pG (N:Nat) (x0:GPermitPlan):Option (Int) :=
  (dh (kR N x0) N (([]:(List (Str×Bool))),0)).bind fun o8=>Sum.elim (fun l10=>(dh (kS N x0 l10) N 0).bind fun QY=>Sum.elim (fun l27=>some 0) (fun r28=>some r28) QY) (fun r11=>some r11) o8
def vI (N:Nat) (x0:Int):Option (Bool) :=
  some ((aJ .geq x0 0)&&(aJ .leq x0 5))
def qV (N:Nat) (x0:bV) (c0:Str):Option (Bool) :=
  some (zY .eql x0.Name c0)
def ig (N:Nat) (x0:(List bV)) (x1:(bV→Option Bool)) (s1:Int):Option (Int ⊕ (Unit ⊕ Int)) :=
  bif (aJ .lss s1 (List.length x0:Int)) then ((idx x0 s1).bind fun v2=>(x1 v2).bind fun v3=>bif v3 then (some (.inr (Sum.inr s1))) else (some (.inl (IntKind.i64.wrap (s1+1))))) else (some (.inr (Sum.inl ())))
def iO (N:Nat) (x0:(List bV)) (x1:(bV→Option Bool)):Option (Int) :=
  (dh (ig N x0 x1) N 0).bind fun o6=>Sum.elim (fun l8=>some (-1)) (fun r9=>some r9) o6
def iF (N:Nat) (x0:GPermitPlan) (x1:Str):Option (bV×Bool) :=
  (iO N x0.bU (fun y0=>qV N y0 x1)).bind fun v1=>bif (aJ .lss v1 0) then (some ((⟨[],false,[]⟩:bV),false)) else ((idx x0.bU v1).bind fun v2=>some (v2,true))
def qp (N:Nat) (x0:aF) (c0:Str):Option (Bool) :=
  some (zY .eql x0.Name c0)
def gU (N:Nat) (x0:(List aF)) (x1:(aF→Option Bool)) (s1:Int):Option (Int ⊕ (Unit ⊕ Int)) :=
  bif (aJ .lss s1 (List.length x0:Int)) then ((idx x0 s1).bind fun v2=>(x1 v2).bind fun v3=>bif v3 then (some (.inr (Sum.inr s1))) else (some (.inl (IntKind.i64.wrap (s1+1))))) else (some (.inr (Sum.inl ())))
def fK (N:Nat) (x0:(List aF)) (x1:(aF→Option Bool)):Option (Int) :=
  (dh (gU N x0 x1) N 0).bind fun o6=>Sum.elim (fun l8=>some (-1)) (fun r9=>some r9) o6
def lV (N:Nat) (x0:GPermitPlan) (x1:Str):Option (aF×Bool) :=
  (fK N x0.ay (fun y0=>qp N y0 x1)).bind fun v1=>bif (aJ .lss v1 0) then (some ((⟨[],0,[],0,0,[]⟩:aF),false)) else ((idx x0.ay v1).bind fun v2=>some (v2,true))
def kH (N:Nat) (x0:GPermitPlan) (v17:aF) (MX:Int):Option (Int ⊕ (Unit ⊕ Int)) :=
  bif (aJ .lss MX (List.length v17.Locks:Int)) then ((idx v17.Locks MX).bind fun v19=>(lV N x0 v19).bind fun v20=>bif (!v20.2) then (some (.inr (Sum.inr 6))) else (bif ((aJ .neq v20.1.Kind 5)||(aJ .eql v17.Kind 5)) then (some (.inr (Sum.inr 3))) else (some (.inl (IntKind.i64.wrap (MX+1)))))) else (some (.inr (Sum.inl ())))
def kG (N:Nat) (x0:GPermitPlan) (s16:Int):Option (Int ⊕ (Unit ⊕ Int)) :=
  bif (aJ .lss s16 (List.length x0.ay:Int)) then ((idx x0.ay s16).bind fun v17=>(dh (kH N x0 v17) N 0).bind fun Vk=>Sum.elim (fun l26=>some (.inl (IntKind.i64.wrap (s16+1)))) (fun r27=>some (.inr (Sum.inr r27))) Vk) else (some (.inr (Sum.inl ())))
def kF (N:Nat) (x0:GPermitPlan) (s1:((List (Str×Bool))×Int)):Option (((List (Str×Bool))×Int) ⊕ (Unit ⊕ Int)) :=
  bif (aJ .lss s1.2 (List.length x0.ay:Int)) then ((idx x0.ay s1.2).bind fun v2=>(iF N x0 v2.Space).bind fun v3=>(mG N v2.Name).bind fun v4=>bif (!v4) then (some (.inr (Sum.inr 4))) else (bif (gQ false s1.1 v2.Name) then (some (.inr (Sum.inr 5))) else ((vI N v2.Kind).bind fun v5=>bif ((((!v5)||(aJ .lss v2.From 0))||(aJ .geq v2.From v2.To))||(aJ .gtr v2.To 1000000)) then (some (.inr (Sum.inr 2))) else (bif (!v3.2) then (some (.inr (Sum.inr 6))) else (bif (aJ .gtr (List.length v2.Locks:Int) 10) then (some (.inr (Sum.inr 8))) else (some (.inl ((ql s1.1 v2.Name true),(IntKind.i64.wrap (s1.2+1)))))))))) else (some (.inr (Sum.inl ())))
def oJ (N:Nat) (x0:GPermitPlan):Option (Int) :=
  (dh (kF N x0) N (([]:(List (Str×Bool))),0)).bind fun SB=>Sum.elim (fun l14=>(dh (kG N x0) N 0).bind fun o30=>Sum.elim (fun l32=>some 0) (fun r33=>some r33) o30) (fun r15=>some r15) SB
def lY (N:Nat) (x0:GPermitPlan) (s2:Int):Option (Int ⊕ (Unit ⊕ Int)) :=
  bif (aJ .lss s2 (List.length x0.dm:Int)) then ((idx x0.dm s2).bind fun v3=>(vI N v3.A).bind fun v4=>(bif (!(!v4)) then (vI N v3.B) else some false).bind fun v5=>bif ((((!v4)||(!v5))||(aJ .lss v3.Reach 0))||(aJ .gtr v3.Reach 2)) then (some (.inr (Sum.inr 2))) else (some (.inl (IntKind.i64.wrap (s2+1))))) else (some (.inr (Sum.inl ())))
def mZ (N:Nat) (x0:GPermitPlan):Option (Int) :=
  bif (((aJ .gtr (List.length x0.bU:Int) 30)||(aJ .gtr (List.length x0.dm:Int) 30))||(aJ .gtr (List.length x0.ay:Int) 20)) then (some 8) else (bif ((aJ .lss x0.dX 1)||(aJ .gtr x0.dX 10000)) then (some 2) else ((pG N x0).bind fun v1=>bif (aJ .neq v1 0) then (some v1) else ((dh (lY N x0) N 0).bind fun o8=>Sum.elim (fun l10=>(oJ N x0).bind fun v12=>some v12) (fun r11=>some r11) o8)))
def jc (N:Nat) (x0:(List Str)) (x1:Str) (s1:Int):Option (Int ⊕ (Unit ⊕ Int)) :=
  bif (aJ .lss s1 (List.length x0:Int)) then ((idx x0 s1).bind fun v2=>bif (zY .eql x1 v2) then (some (.inr (Sum.inr s1))) else (some (.inl (IntKind.i64.wrap (s1+1))))) else (some (.inr (Sum.inl ())))
def mV (N:Nat) (x0:(List Str)) (x1:Str):Option (Int) :=
  (dh (jc N x0 x1) N 0).bind fun o5=>Sum.elim (fun l7=>some (-1)) (fun r8=>some r8) o5
def fC (N:Nat) (x0:(List Str)) (x1:Str):Option (Bool) :=
  (mV N x0 x1).bind fun v1=>some (aJ .geq v1 0)
def nS (N:Nat) (x0:GPermitPlan) (x1:Str) (x2:Str):Option (Int) :=
  (iF N x0 x1).bind fun v1=>(iF N x0 x2).bind fun v2=>bif (zY .eql x1 x2) then (some 0) else ((fC N v1.1.Next x2).bind fun v3=>(bif (!v3) then (fC N v2.1.Next x1) else some false).bind fun v4=>bif (v3||v4) then (some 1) else (some 2))
def BH (N:Nat) (x0:GPermitPlan) (x1:Str) (x2:Str):Option (Int×Int) :=
  (mZ N x0).bind fun v1=>bif (aJ .neq v1 0) then (some (0,v1)) else ((iF N x0 x1).bind fun v2=>(iF N x0 x2).bind fun v3=>bif ((!v2.2)||(!v3.2)) then (some (0,6)) else ((nS N x0 x1 x2).bind fun v4=>some (v4,0)))
def ng (N:Nat) (x0:(List bV)):Option ((List bV)) :=
  (app ([]:(List bV)) x0).bind fun v1=>some v1
def jW (N:Nat) (x0:(List bG)):Option ((List bG)) :=
  (app ([]:(List bG)) x0).bind fun v1=>some v1
def lN (N:Nat) (x0:(List aF)):Option ((List aF)) :=
  (app ([]:(List aF)) x0).bind fun v1=>some v1
def iU (N:Nat) (x0:(List Str)):Option ((List Str)) :=
  (app ([]:(List Str)) x0).bind fun v1=>some v1
def wX (N:Nat) (v3:(List aF)) (s14:(Int×(List aF))):Option ((Int×(List aF)) ⊕ (List aF)) :=
  bif (aJ .lss s14.1 (List.length v3:Int)) then ((idx s14.2 s14.1).bind fun v15=>(iU N v15.Locks).bind fun v16=>(idx s14.2 s14.1).bind fun v17=>some (.inl ((IntKind.i64.wrap (s14.1+1)),(List.set s14.2 (Int.toNat s14.1) ({ v17 with Locks:=v16 }:aF))))) else (some (.inr s14.2))
def wW (N:Nat) (v1:(List bV)) (s7:(Int×(List bV))):Option ((Int×(List bV)) ⊕ (List bV)) :=
  bif (aJ .lss s7.1 (List.length v1:Int)) then ((idx s7.2 s7.1).bind fun v8=>(iU N v8.Next).bind fun v9=>(idx s7.2 s7.1).bind fun v10=>some (.inl ((IntKind.i64.wrap (s7.1+1)),(List.set s7.2 (Int.toNat s7.1) ({ v10 with Next:=v9 }:bV))))) else (some (.inr s7.2))
def zx (N:Nat) (x0:GPermitPlan):Option (GPermitPlan) :=
  (ng N x0.bU).bind fun v1=>(jW N x0.dm).bind fun v2=>(lN N x0.ay).bind fun v3=>(dh (wW N v1) N (0,v1)).bind fun SB=>(dh (wX N v3) N (0,v3)).bind fun U4=>some ({ ({ x0 with dm:=v2 }:GPermitPlan) with bU:=SB,ay:=U4 }:GPermitPlan)
def jS (N:Nat) (x0:(List Int)) (x1:Int) (s1:Int):Option (Int ⊕ (Unit ⊕ Int)) :=
  bif (aJ .lss s1 (List.length x0:Int)) then ((idx x0 s1).bind fun v2=>bif (aJ .eql x1 v2) then (some (.inr (Sum.inr s1))) else (some (.inl (IntKind.i64.wrap (s1+1))))) else (some (.inr (Sum.inl ())))
def qE (N:Nat) (x0:(List Int)) (x1:Int):Option (Int) :=
  (dh (jS N x0 x1) N 0).bind fun o5=>Sum.elim (fun l7=>some (-1)) (fun r8=>some r8) o5
def jT (N:Nat) (x0:(List Int)) (x1:Int):Option (Bool) :=
  (qE N x0 x1).bind fun v1=>some (aJ .geq v1 0)
def iM (N:Nat) (g0:af) (aI:(List (Str×ah))) (aC:(List (Str×ak))) (aG:(List (Str×Str))) (x1:Str) (x2:(List Int)):Option Bool :=
  (jT N x2 ((gQ (⟨0,[],0⟩:ah) aI x1).state)).bind fun v1=>some v1
def iH (N:Nat) (g0:af) (aI:(List (Str×ah))) (aC:(List (Str×ak))) (aG:(List (Str×Str))) (x1:Str) (x2:Int):Option (List (Str×ah)) :=
  some (ql aI x1 ({ (gQ (⟨0,[],0⟩:ah) aI x1) with state:=x2 }:ah))
def xJ (N:Nat) (x0:GPermitPlan) (v1:(bV×Bool)) (s11:((List Str)×Int)):Option (((List Str)×Int) ⊕ (List Str)) :=
  bif (aJ .lss s11.2 (List.length x0.bU:Int)) then ((idx x0.bU s11.2).bind fun v12=>(bif v12.lJ then (nS N x0 v12.Name v1.1.Name) else some 0).bind fun v13=>bif (v12.lJ&&(aJ .eql v13 1)) then ((app s11.1 [v12.Name]).bind fun v14=>some (.inl (v14,(IntKind.i64.wrap (s11.2+1))))) else (some (.inl (s11.1,(IntKind.i64.wrap (s11.2+1)))))) else (some (.inr s11.1))
def Aq (N:Nat) (x0:GPermitPlan) (x1:aF):Option ((List Str)) :=
  (iF N x0 x1.Space).bind fun v1=>((((bif (aJ .eql x1.Kind 0) then (some (aJ .eql x1.Kind 0)) else (bif (aJ .eql x1.Kind 1) then (some (aJ .eql x1.Kind 1)) else (some (aJ .eql x1.Kind 2)))):Option Bool).bind fun o4=>bif o4 then (bif v1.1.lJ then ((app [] [v1.1.Name]).bind fun v6=>some v6) else (some [])) else (some [])):Option (List Str)).bind fun o9=>bif (aJ .eql x1.Kind 0) then ((dh (xJ N x0 v1) N (o9,0)).bind fun Q8=>some Q8) else (some o9)
def uS (N:Nat) (g0:af) (aI:(List (Str×ah))) (aC:(List (Str×ak))) (aG:(List (Str×Str))) (x1:Str):Option (Bool×Bool) :=
  (iF N g0.plan x1).bind fun v1=>bif (!v1.1.lJ) then (some (true,true)) else (some ((((((nO aC x1)&&(aJ .leq (IntKind.i64.wrap (g0.now - ((gQ (⟨0,0,0⟩:ak) aC x1).at_))) g0.plan.dX))&&(aJ .geq ((gQ (⟨0,0,0⟩:ak) aC x1).lQ) 195))&&(aJ .leq ((gQ (⟨0,0,0⟩:ak) aC x1).lQ) 235))&&(aJ .leq ((gQ (⟨0,0,0⟩:ak) aC x1).SC) 50)),((((((nO aC x1)&&(aJ .leq (IntKind.i64.wrap (g0.now - ((gQ (⟨0,0,0⟩:ak) aC x1).at_))) g0.plan.dX))&&(aJ .geq ((gQ (⟨0,0,0⟩:ak) aC x1).lQ) 195))&&(aJ .leq ((gQ (⟨0,0,0⟩:ak) aC x1).lQ) 235))&&(aJ .leq ((gQ (⟨0,0,0⟩:ak) aC x1).SC) 50))&&(aJ .leq ((gQ (⟨0,0,0⟩:ak) aC x1).SC) 10))))
def nM (N:Nat) (g0:af) (aI:(List (Str×ah))) (aC:(List (Str×ak))) (aG:(List (Str×Str))) (x0:Str) (c1:aF):Option Bool :=
  (uS N g0 aI aC aG x0).bind fun v1=>bif (aJ .eql c1.Kind 0) then (some v1.2) else (some v1.1)
def iI (N:Nat) (g0:af) (aI:(List (Str×ah))) (aC:(List (Str×ak))) (aG:(List (Str×Str))) (x0:(List Str)) (lI:aF) (s1:Int):Option (Int ⊕ (Unit ⊕ Int)) :=
  bif (aJ .lss s1 (List.length x0:Int)) then ((idx x0 s1).bind fun v2=>(nM N g0 aI aC aG v2 lI).bind fun v3=>bif v3 then (some (.inr (Sum.inr s1))) else (some (.inl (IntKind.i64.wrap (s1+1))))) else (some (.inr (Sum.inl ())))
def iV (N:Nat) (g0:af) (aI:(List (Str×ah))) (aC:(List (Str×ak))) (aG:(List (Str×Str))) (x0:(List Str)) (lI:aF):Option Int :=
  (dh (iI N g0 aI aC aG x0 lI) N 0).bind fun o6=>Sum.elim (fun l8=>some (-1)) (fun r9=>some r9) o6
def iE (N:Nat) (g0:af) (aI:(List (Str×ah))) (aC:(List (Str×ak))) (aG:(List (Str×Str))) (lI:aF) (s2:((List Str)×Int×Int)):Option (((List Str)×Int×Int) ⊕ ((List Str)×Int)) :=
  bif (aJ .lss s2.2.2 (List.length s2.1:Int)) then ((idx s2.1 s2.2.2).bind fun v3=>(nM N g0 aI aC aG v3 lI).bind fun v4=>bif (!v4) then ((idx s2.1 s2.2.1).bind fun v5=>some (.inl ((List.set s2.1 (Int.toNat s2.2.1) v3),(IntKind.i64.wrap (s2.2.1+1)),(IntKind.i64.wrap (s2.2.2+1))))) else (some (.inl (s2.1,s2.2.1,(IntKind.i64.wrap (s2.2.2+1)))))) else (some (.inr (s2.1,s2.2.1)))
def iR (N:Nat) (g0:af) (aI:(List (Str×ah))) (aC:(List (Str×ak))) (aG:(List (Str×Str))) (x0:(List Str)) (lI:aF):Option (List Str) :=
  (iV N g0 aI aC aG x0 lI).bind fun v1=>bif (aJ .eql v1 (-1)) then (some x0) else ((dh (iE N g0 aI aC aG lI) N (x0,v1,(IntKind.i64.wrap (v1+1)))).bind fun o8=>(SE o8.1 o8.2 (List.length o8.1:Int)).bind fun v10=>(bif Nat.beq ((Int.toNat o8.2)+(Int.toNat (List.length o8.1:Int) - Int.toNat o8.2)) (List.length o8.1) then some (List.take (Int.toNat o8.2) o8.1 ++ List.replicate (Int.toNat (List.length o8.1:Int) - Int.toNat o8.2) []) else none).bind fun v11=>(SE v11 0 o8.2).bind fun v12=>some v12)
def oG (N:Nat) (g0:af) (aI:(List (Str×ah))) (aC:(List (Str×ak))) (aG:(List (Str×Str))) (x1:aF):Option (List Str) :=
  (Aq N g0.plan x1).bind fun v1=>(iR N g0 aI aC aG v1 x1).bind fun v2=>some v2
def mQ (N:Nat) (g0:af) (aI:(List (Str×ah))) (aC:(List (Str×ak))) (aG:(List (Str×Str))) (x0:Str):Option Bool :=
  (iM N g0 aI aC aG x0 [2]).bind fun v1=>some v1
def iD (N:Nat) (g0:af) (aI:(List (Str×ah))) (aC:(List (Str×ak))) (aG:(List (Str×Str))) (x0:(List Str)) (s1:Int):Option (Int ⊕ (Unit ⊕ Int)) :=
  bif (aJ .lss s1 (List.length x0:Int)) then ((idx x0 s1).bind fun v2=>(mQ N g0 aI aC aG v2).bind fun v3=>bif v3 then (some (.inr (Sum.inr s1))) else (some (.inl (IntKind.i64.wrap (s1+1))))) else (some (.inr (Sum.inl ())))
def iQ (N:Nat) (g0:af) (aI:(List (Str×ah))) (aC:(List (Str×ak))) (aG:(List (Str×Str))) (x0:(List Str)):Option Int :=
  (dh (iD N g0 aI aC aG x0) N 0).bind fun o6=>Sum.elim (fun l8=>some (-1)) (fun r9=>some r9) o6
def iC (N:Nat) (g0:af) (aI:(List (Str×ah))) (aC:(List (Str×ak))) (aG:(List (Str×Str))) (s2:((List Str)×Int×Int)):Option (((List Str)×Int×Int) ⊕ ((List Str)×Int)) :=
  bif (aJ .lss s2.2.2 (List.length s2.1:Int)) then ((idx s2.1 s2.2.2).bind fun v3=>(mQ N g0 aI aC aG v3).bind fun v4=>bif (!v4) then ((idx s2.1 s2.2.1).bind fun v5=>some (.inl ((List.set s2.1 (Int.toNat s2.2.1) v3),(IntKind.i64.wrap (s2.2.1+1)),(IntKind.i64.wrap (s2.2.2+1))))) else (some (.inl (s2.1,s2.2.1,(IntKind.i64.wrap (s2.2.2+1)))))) else (some (.inr (s2.1,s2.2.1)))
def iL (N:Nat) (g0:af) (aI:(List (Str×ah))) (aC:(List (Str×ak))) (aG:(List (Str×Str))) (x0:(List Str)):Option (List Str) :=
  (iQ N g0 aI aC aG x0).bind fun v1=>bif (aJ .eql v1 (-1)) then (some x0) else ((dh (iC N g0 aI aC aG) N (x0,v1,(IntKind.i64.wrap (v1+1)))).bind fun o8=>(SE o8.1 o8.2 (List.length o8.1:Int)).bind fun v10=>(bif Nat.beq ((Int.toNat o8.2)+(Int.toNat (List.length o8.1:Int) - Int.toNat o8.2)) (List.length o8.1) then some (List.take (Int.toNat o8.2) o8.1 ++ List.replicate (Int.toNat (List.length o8.1:Int) - Int.toNat o8.2) []) else none).bind fun v11=>(SE v11 0 o8.2).bind fun v12=>some v12)
def og (N:Nat) (g0:af) (aI:(List (Str×ah))) (aC:(List (Str×ak))) (aG:(List (Str×Str))) (x1:aF):Option (List Str) :=
  (iU N x1.Locks).bind fun v1=>(iL N g0 aI aC aG v1).bind fun v2=>some v2
def qB (N:Nat) (g0:af) (aC:(List (Str×ak))) (aG:(List (Str×Str))) (s10:(Bool×Int×(List (Str×ah)))):Option ((Bool×Int×(List (Str×ah))) ⊕ (Bool×(List (Str×ah)))) :=
  bif (aJ .lss s10.2.1 (List.length g0.plan.ay:Int)) then ((idx g0.plan.ay s10.2.1).bind fun v11=>(iM N g0 s10.2.2 aC aG v11.Name [2]).bind fun v12=>(bif v12 then (oG N g0 s10.2.2 aC aG v11) else some []).bind fun v13=>(bif (v12&&(!(aJ .gtr (List.length v13:Int) 0))) then (og N g0 s10.2.2 aC aG v11) else some []).bind fun v14=>bif (v12&&((aJ .gtr (List.length v13:Int) 0)||(aJ .gtr (List.length v14:Int) 0))) then ((iH N g0 s10.2.2 aC aG v11.Name 3).bind fun v15=>some (.inl (true,(IntKind.i64.wrap (s10.2.1+1)),v15))) else (some (.inl (s10.1,(IntKind.i64.wrap (s10.2.1+1)),s10.2.2)))) else (some (.inr (s10.1,s10.2.2)))
def qA (N:Nat) (g0:af) (aC:(List (Str×ak))) (aG:(List (Str×Str))) (s9:(Bool×(List (Str×ah)))):Option ((Bool×(List (Str×ah))) ⊕ (List (Str×ah))) :=
  bif s9.1 then ((dh (qB N g0 aC aG) N (false,0,s9.2)).bind fun Vf=>some (.inl (Vf.1,Vf.2))) else (some (.inr s9.2))
def qy (N:Nat) (g0:af) (aC:(List (Str×ak))) (aG:(List (Str×Str))) (s1:(Int×(List (Str×ah)))):Option ((Int×(List (Str×ah))) ⊕ (List (Str×ah))) :=
  bif (aJ .lss s1.1 (List.length g0.plan.ay:Int)) then ((idx g0.plan.ay s1.1).bind fun v2=>(iM N g0 s1.2 aC aG v2.Name [0,1,2,3]).bind fun v3=>bif (v3&&(aJ .leq ((gQ (⟨0,[],0⟩:ah) s1.2 v2.Name).OH) g0.now)) then ((iH N g0 s1.2 aC aG v2.Name 6).bind fun v4=>some (.inl ((IntKind.i64.wrap (s1.1+1)),v4))) else (some (.inl ((IntKind.i64.wrap (s1.1+1)),s1.2)))) else (some (.inr s1.2))
def mF (N:Nat) (g0:af) (aI:(List (Str×ah))) (aC:(List (Str×ak))) (aG:(List (Str×Str))):Option (List (Str×ah)) :=
  (dh (qy N g0 aC aG) N (0,aI)).bind fun o7=>(dh (qA N g0 aC aG) N (true,o7)).bind fun o22=>some o22
def xH (N:Nat) (x0:GPermitPlan) (s7:(Int×(List (Str×ah)))):Option ((Int×(List (Str×ah))) ⊕ (List (Str×ah))) :=
  bif (aJ .lss s7.1 (List.length x0.ay:Int)) then ((idx x0.ay s7.1).bind fun v8=>some (.inl ((IntKind.i64.wrap (s7.1+1)),(ql s7.2 v8.Name (⟨0,[],v8.To⟩:ah))))) else (some (.inr s7.2))
def Ak (N:Nat) (x0:GPermitPlan):Option ((Option (af×(List (Str×ah))×(List (Str×ak))×(List (Str×Str))))×(Int)) :=
  (mZ N x0).bind fun v1=>bif (aJ .neq v1 0) then (some (none,v1)) else ((zx N x0).bind fun v2=>(dh (xH N x0) N (0,([]:(List (Str×ah))))).bind fun Qg=>(mF N (⟨v2,0,[]⟩:af) Qg ([]:(List (Str×ak))) ([]:(List (Str×Str)))).bind fun v12=>some ((some ((⟨v2,0,[]⟩:af),v12,([]:(List (Str×ak))),([]:(List (Str×Str))))),0))
def xI (N:Nat):Option ((List bC)) :=
  some [(⟨([116,105,99,107]:Str),([]:Str),([]:(List Int)),(some 95)⟩:bC),(⟨([97,112,112,114,111,118,101]:Str),([110,112]:Str),[0],(some 96)⟩:bC),(⟨([111,112,101,110]:Str),([110,112]:Str),[1],(some 97)⟩:bC),(⟨([115,117,115,112,101,110,100]:Str),([110]:Str),[2],(some 98)⟩:bC),(⟨([114,101,115,117,109,101]:Str),([110,112]:Str),[3],(some 97)⟩:bC),(⟨([99,108,111,115,101]:Str),([110]:Str),[2,3],(some 99)⟩:bC),(⟨([99,97,110,99,101,108]:Str),([110]:Str),[0,1],(some 100)⟩:bC),(⟨([103,97,115]:Str),([115,111,103]:Str),([]:(List Int)),(some 101)⟩:bC),(⟨([101,110,116,101,114]:Str),([112,115]:Str),([]:(List Int)),(some 102)⟩:bC),(⟨([108,101,97,118,101]:Str),([112]:Str),([]:(List Int)),(some 103)⟩:bC),(⟨([97,108,97,114,109]:Str),([115]:Str),([]:(List Int)),(some 104)⟩:bC),(⟨([101,120,116,101,110,100]:Str),([110,112,116]:Str),[1,2,3],(some 105)⟩:bC)]
def yN (N:Nat) (x0:Int):Option (Bool) :=
  some ((aJ .geq x0 0)&&(aJ .leq x0 1000000))
def uO (N:Nat) (x0:(Option (af×Value×Value×Value))) (x1:bQ):Option ((List Str)×Int) :=
  (xI N).bind fun v1=>bif (Option.isNone x0) then (some ([],1)) else ((bif (!((aJ .lss x1.Op 0)||(aJ .geq x1.Op (List.length v1:Int)))) then (yN N x1.At) else some false).bind fun v2=>bif (((aJ .lss x1.Op 0)||(aJ .geq x1.Op (List.length v1:Int)))||(!v2)) then (some ([],2)) else (none))
def rP (N:Nat) (x0:(List Str)) (x1:(List Str)) (s1:Int):Option (Int ⊕ (Unit ⊕ Bool)) :=
  bif (aJ .lss s1 (List.length x0:Int)) then ((idx x0 s1).bind fun v2=>(idx x1 s1).bind fun v3=>bif (zY .neq v2 v3) then (some (.inr (Sum.inr false))) else (some (.inl (IntKind.i64.wrap (s1+1))))) else (some (.inr (Sum.inl ())))
def uP (N:Nat) (x0:(List Str)) (x1:(List Str)):Option (Bool) :=
  bif (aJ .neq (List.length x0:Int) (List.length x1:Int)) then (some false) else ((dh (rP N x0 x1) N 0).bind fun o6=>Sum.elim (fun l8=>some true) (fun r9=>some r9) o6)
def uQ (N:Nat) (g0:af) (aI:(List (Str×ah))) (aC:(List (Str×ak))) (aG:(List (Str×Str))) (x1:bQ):Option aj :=
  some (⟨[],0⟩:aj)
def jm (N:Nat) (x0:Int) (x1:(List Str)):Option (aj) :=
  some (⟨x1,x0⟩:aj)
def rJ (N:Nat) (g0:af) (aI:(List (Str×ah))) (aC:(List (Str×ak))) (aG:(List (Str×Str))) (x1:bQ):Option ((List (Str×ah))×aj) :=
  (mG N x1.Person).bind fun v1=>bif (!v1) then ((jm N 4 ([]:(List Str))).bind fun v2=>some (aI,v2)) else (some ((ql aI x1.Name ({ ({ (gQ (⟨0,[],0⟩:ah) aI x1.Name) with state:=1 }:ah) with IE:=x1.Person }:ah)),(⟨[],0⟩:aj)))
def rM (N:Nat) (g0:af) (aI:(List (Str×ah))) (aC:(List (Str×ak))) (aG:(List (Str×Str))) (x1:aF):Option aF :=
  some x1
def qm (N:Nat) (x0:bG) (c0:Int) (c1:aF) (c2:aF):Option (Bool) :=
  some ((aJ .leq c0 x0.Reach)&&(((aJ .eql x0.A c1.Kind)&&(aJ .eql x0.B c2.Kind))||((aJ .eql x0.A c2.Kind)&&(aJ .eql x0.B c1.Kind))))
def fE (N:Nat) (x0:(List bG)) (x1:(bG→Option Bool)) (s1:Int):Option (Int ⊕ (Unit ⊕ Int)) :=
  bif (aJ .lss s1 (List.length x0:Int)) then ((idx x0 s1).bind fun v2=>(x1 v2).bind fun v3=>bif v3 then (some (.inr (Sum.inr s1))) else (some (.inl (IntKind.i64.wrap (s1+1))))) else (some (.inr (Sum.inl ())))
def fO (N:Nat) (x0:(List bG)) (x1:(bG→Option Bool)):Option (Int) :=
  (dh (fE N x0 x1) N 0).bind fun o6=>Sum.elim (fun l8=>some (-1)) (fun r9=>some r9) o6
def gZ (N:Nat) (x0:(List bG)) (x1:(bG→Option Bool)):Option (Bool) :=
  (fO N x0 x1).bind fun v1=>some (aJ .geq v1 0)
def pR (N:Nat) (x0:GPermitPlan) (x1:aF) (x2:aF):Option (Bool) :=
  bif (zY .eql x1.Name x2.Name) then (some false) else ((nS N x0 x1.Space x2.Space).bind fun v1=>(gZ N x0.dm (fun y0=>qm N y0 v1 x1 x2)).bind fun v2=>some v2)
def pF (N:Nat) (g0:af) (aI:(List (Str×ah))) (aC:(List (Str×ak))) (aG:(List (Str×Str))) (x0:aF) (c1:aF):Option Bool :=
  (pR N g0.plan x0 c1).bind fun v1=>some v1
def jH (N:Nat) (g0:af) (aI:(List (Str×ah))) (aC:(List (Str×ak))) (aG:(List (Str×Str))) (lI:aF) (s1:((List Str)×Int)):Option (((List Str)×Int) ⊕ (List Str)) :=
  bif (aJ .lss s1.2 (List.length g0.plan.ay:Int)) then ((idx g0.plan.ay s1.2).bind fun v2=>(iM N g0 aI aC aG v2.Name [2]).bind fun v3=>(bif v3 then (pF N g0 aI aC aG v2 lI) else some false).bind fun v4=>bif (v3&&v4) then ((app s1.1 [v2.Name]).bind fun v5=>some (.inl (v5,(IntKind.i64.wrap (s1.2+1))))) else (some (.inl (s1.1,(IntKind.i64.wrap (s1.2+1)))))) else (some (.inr s1.1))
def jY (N:Nat) (g0:af) (aI:(List (Str×ah))) (aC:(List (Str×ak))) (aG:(List (Str×Str))) (lI:aF):Option (List Str) :=
  (dh (jH N g0 aI aC aG lI) N ([],0)).bind fun o8=>some o8
def oh (N:Nat) (g0:af) (aI:(List (Str×ah))) (aC:(List (Str×ak))) (x0:Str) (c1:aF):Option Bool :=
  (nS N g0.plan x0 c1.Space).bind fun v1=>some (aJ .leq v1 1)
def kQ (N:Nat) (x0:(List Str)):Option ((List Str)):=Uz x0
def jv (N:Nat) (g0:af) (aI:(List (Str×ah))) (aC:(List (Str×ak))) (lI:aF) (s2:(List Str)) (p3:(Str×Str)):Option (List Str) :=
  (oh N g0 aI aC p3.2 lI).bind fun v5=>bif v5 then ((app s2 [p3.1]).bind fun v6=>some v6) else (some s2)
def jI (N:Nat) (g0:af) (aI:(List (Str×ah))) (aC:(List (Str×ak))) (aG:(List (Str×Str))) (lI:aF):Option (List Str) :=
  LK aG fun q4p=>(LJ (jv N g0 aI aC lI) q4p []).bind fun s2=>(kQ N s2).bind fun v8=>some v8
def nP {S:Type} (N:Nat) (Y:S→dH→Option (S×Bool)) (o8:(List dH)) (s10:(Int×S)):Option ((Int×S) ⊕ (S ⊕ S)) :=
  bif (aJ .lss s10.1 (List.length o8:Int)) then ((idx o8 s10.1).bind fun v11=>(bif (aJ .gtr (List.length v11.Names:Int) 0) then (Y s10.2 v11) else some (s10.2,false)).bind fun v12=>bif ((aJ .gtr (List.length v11.Names:Int) 0)&&(!v12.2)) then (some (.inr (Sum.inr v12.1))) else (some (.inl ((IntKind.i64.wrap (s10.1+1)),v12.1)))) else (some (.inr (Sum.inl s10.2)))
def oQ {S:Type} (N:Nat) (Y:S→dH→Option (S×Bool)) (y0:S) (g0:af) (aI:(List (Str×ah))) (aC:(List (Str×ak))) (aG:(List (Str×Str))) (c1:aF):Option S :=
  (bif (aJ .lss g0.now c1.From) then (Y y0 (⟨2,[]⟩:dH)) else some (y0,false)).bind fun v1=>bif ((aJ .lss g0.now c1.From)&&(!v1.2)) then (some v1.1) else ((og N g0 aI aC aG c1).bind fun v2=>(jY N g0 aI aC aG c1).bind fun v3=>(oG N g0 aI aC aG c1).bind fun v4=>((bif (aJ .eql c1.Kind 3) then ((jI N g0 aI aC aG c1).bind fun v5=>(app [(⟨18,v2⟩:dH),(⟨20,v3⟩:dH),(⟨21,v4⟩:dH)] [(⟨17,v5⟩:dH)]).bind fun v6=>some v6) else (some [(⟨18,v2⟩:dH),(⟨20,v3⟩:dH),(⟨21,v4⟩:dH)])):Option (List dH)).bind fun o8=>(dh (nP N Y o8) N (0,v1.1)).bind fun Vj=>Sum.elim (fun l17=>some l17) (fun r18=>some r18) Vj)
def jh (N:Nat) (s7:aj) (i8:dH):Option (aj×Option Nat) :=
  (jm N i8.Err i8.Names).bind fun v12=>some (v12,some 0)
def uo (N:Nat) (g0:af) (aI:(List (Str×ah))) (aC:(List (Str×ak))) (aG:(List (Str×Str))) (x1:bQ):Option ((List (Str×ah))×aj) :=
  (mG N x1.Person).bind fun v1=>bif (!v1) then ((jm N 4 ([]:(List Str))).bind fun v2=>some (aI,v2)) else (bif (zY .eql x1.Person ((gQ (⟨0,[],0⟩:ah) aI x1.Name).IE)) then ((jm N 26 ([]:(List Str))).bind fun v3=>some (aI,v3)) else ((lV N g0.plan x1.Name).bind fun v4=>(rM N g0 aI aC aG v4.1).bind fun v5=>(oQ N (yl (jh N) 1) ((⟨[],0⟩:aj),none) g0 aI aC aG v5).bind fun SA=>Jl SA (fun Nk=>(iH N g0 aI aC aG x1.Name 2).bind fun v14=>some (v14,(⟨[],0⟩:aj))) (fun Nk=>some (aI,Nk))))
def rD (N:Nat) (g0:af) (aI:(List (Str×ah))) (aC:(List (Str×ak))) (aG:(List (Str×Str))) (x1:bQ):Option ((List (Str×ah))×aj) :=
  (iH N g0 aI aC aG x1.Name 3).bind fun v1=>some (v1,(⟨[],0⟩:aj))
def kz (N:Nat) (x0:aF) (c0:aF):Option (Bool) :=
  (fC N x0.Locks c0.Name).bind fun v1=>some v1
def rE (N:Nat) (g0:af) (aI:(List (Str×ah))) (aC:(List (Str×ak))) (aG:(List (Str×Str))) (x1:(aF→Option Bool)) (s1:((List Str)×Int)):Option (((List Str)×Int) ⊕ (List Str)) :=
  bif (aJ .lss s1.2 (List.length g0.plan.ay:Int)) then ((idx g0.plan.ay s1.2).bind fun v2=>(iM N g0 aI aC aG v2.Name [2]).bind fun v3=>(bif v3 then (x1 v2) else some false).bind fun v4=>bif (v3&&v4) then ((app s1.1 [v2.Name]).bind fun v5=>some (.inl (v5,(IntKind.i64.wrap (s1.2+1))))) else (some (.inl (s1.1,(IntKind.i64.wrap (s1.2+1)))))) else (some (.inr s1.1))
def nZ (N:Nat) (g0:af) (aI:(List (Str×ah))) (aC:(List (Str×ak))) (aG:(List (Str×Str))) (x1:(aF→Option Bool)):Option (List Str) :=
  (dh (rE N g0 aI aC aG x1) N ([],0)).bind fun o8=>some o8
def kC (N:Nat) (x0:aF) (c0:aF):Option (Bool) :=
  some (((aJ .eql x0.Kind 1)&&(zY .eql x0.Space c0.Space))&&(zY .neq x0.Name c0.Name))
def kD (N:Nat) (x0:Str) (c0:aF):Option (Bool) :=
  some (zY .eql x0 c0.Space)
def qf (N:Nat) (x1:(Str→Option Bool)) (s2:(List Str)) (p3:(Str×Str)):Option (List Str) :=
  (x1 p3.2).bind fun v5=>bif v5 then ((app s2 [p3.1]).bind fun v6=>some v6) else (some s2)
def rF (N:Nat) (g0:af) (aI:(List (Str×ah))) (aC:(List (Str×ak))) (aG:(List (Str×Str))) (x1:(Str→Option Bool)):Option (List Str) :=
  LK aG fun q4p=>(LJ (qf N x1) q4p []).bind fun s2=>(kQ N s2).bind fun v8=>some v8
def sQ (N:Nat) (g0:af) (aI:(List (Str×ah))) (aC:(List (Str×ak))) (aG:(List (Str×Str))) (x1:bQ):Option ((List (Str×ah))×aj) :=
  (lV N g0.plan x1.Name).bind fun v1=>(iF N g0.plan v1.1.Space).bind fun v2=>((bif (aJ .eql v1.1.Kind 5) then ((nZ N g0 aI aC aG (fun y0=>kz N y0 v1.1)).bind fun v3=>bif (aJ .gtr (List.length v3:Int) 0) then ((jm N 20 v3).bind fun v4=>some (Sum.inr v4)) else (some (Sum.inl (⟨[],0⟩:aj)))) else ((bif (aJ .eql v1.1.Kind 1) then (iM N g0 aI aC aG v1.1.Name [2]) else some false).bind fun v6=>bif (((aJ .eql v1.1.Kind 1)&&v6)&&v2.1.lJ) then ((nZ N g0 aI aC aG (fun y0=>kC N y0 v1.1)).bind fun v7=>(rF N g0 aI aC aG (fun y0=>kD N y0 v1.1)).bind fun v8=>bif ((aJ .eql (List.length v7:Int) 0)&&(aJ .gtr (List.length v8:Int) 0)) then ((jm N 21 v8).bind fun v9=>some (Sum.inr v9)) else (some (Sum.inl (⟨[],0⟩:aj)))) else (some (Sum.inl (⟨[],0⟩:aj))))):Option (aj ⊕ aj)).bind fun SA=>Sum.elim (fun l15=>(iH N g0 aI aC aG x1.Name 4).bind fun v17=>some (v17,(⟨[],0⟩:aj))) (fun r16=>some (aI,r16)) SA
def sS (N:Nat) (g0:af) (aI:(List (Str×ah))) (aC:(List (Str×ak))) (aG:(List (Str×Str))) (x1:bQ):Option ((List (Str×ah))×aj) :=
  (iH N g0 aI aC aG x1.Name 5).bind fun v1=>some (v1,(⟨[],0⟩:aj))
def vK (N:Nat) (g0:af) (aI:(List (Str×ah))) (aC:(List (Str×ak))) (aG:(List (Str×Str))) (x1:bQ):Option ((List (Str×ak))×aj) :=
  (iF N g0.plan x1.Space).bind fun v1=>bif (!v1.2) then ((jm N 6 ([]:(List Str))).bind fun v2=>some (aC,v2)) else (bif ((((aJ .lss x1.BF 0)||(aJ .gtr x1.BF 1000))||(aJ .lss x1.U2 0))||(aJ .gtr x1.U2 1000)) then ((jm N 2 ([]:(List Str))).bind fun v3=>some (aC,v3)) else (some ((ql aC x1.Space (⟨g0.now,x1.BF,x1.U2⟩:ak)),(⟨[],0⟩:aj))))
def kE (N:Nat) (x0:aF) (c0:Str):Option (Bool) :=
  some ((aJ .eql x0.Kind 1)&&(zY .eql x0.Space c0))
def sU (N:Nat) (g0:af) (aI:(List (Str×ah))) (aC:(List (Str×ak))) (aG:(List (Str×Str))) (x1:Str):Option Bool :=
  (nZ N g0 aI aC aG (fun y0=>kE N y0 x1)).bind fun v1=>some (aJ .gtr (List.length v1:Int) 0)
def rG (N:Nat) (g0:af) (aI:(List (Str×ah))) (aC:(List (Str×ak))) (aG:(List (Str×Str))) (x0:aF) (c1:bV):Option Bool :=
  (bif (aJ .eql x0.Kind 3) then (nS N g0.plan x0.Space c1.Name) else some 0).bind fun v1=>some ((aJ .eql x0.Kind 3)&&(aJ .leq v1 1))
def kM (N:Nat) (g0:af) (aI:(List (Str×ah))) (aC:(List (Str×ak))) (aG:(List (Str×Str))) (lI:bV) (s1:((List Str)×Int)):Option (((List Str)×Int) ⊕ (List Str)) :=
  bif (aJ .lss s1.2 (List.length g0.plan.ay:Int)) then ((idx g0.plan.ay s1.2).bind fun v2=>(iM N g0 aI aC aG v2.Name [2]).bind fun v3=>(bif v3 then (rG N g0 aI aC aG v2 lI) else some false).bind fun v4=>bif (v3&&v4) then ((app s1.1 [v2.Name]).bind fun v5=>some (.inl (v5,(IntKind.i64.wrap (s1.2+1))))) else (some (.inl (s1.1,(IntKind.i64.wrap (s1.2+1)))))) else (some (.inr s1.1))
def lg (N:Nat) (g0:af) (aI:(List (Str×ah))) (aC:(List (Str×ak))) (aG:(List (Str×Str))) (lI:bV):Option (List Str) :=
  (dh (kM N g0 aI aC aG lI) N ([],0)).bind fun o8=>some o8
def uq (N:Nat) (g0:af) (aI:(List (Str×ah))) (aC:(List (Str×ak))) (aG:(List (Str×Str))) (x1:bQ):Option ((List (Str×Str))×aj) :=
  (mG N x1.Person).bind fun v1=>bif (!v1) then ((jm N 4 ([]:(List Str))).bind fun v2=>some (aG,v2)) else ((iF N g0.plan x1.Space).bind fun v3=>bif (!v3.2) then ((jm N 6 ([]:(List Str))).bind fun v4=>some (aG,v4)) else (bif (nO aG x1.Person) then ((jm N 18 ([]:(List Str))).bind fun v5=>some (aG,v5)) else ((bif v3.1.lJ then (sU N g0 aI aC aG v3.1.Name) else some false).bind fun v6=>bif (v3.1.lJ&&(!v6)) then ((jm N 21 ([]:(List Str))).bind fun v7=>some (aG,v7)) else ((lg N g0 aI aC aG v3.1).bind fun v8=>bif (aJ .gtr (List.length v8:Int) 0) then ((jm N 17 v8).bind fun v9=>some (aG,v9)) else (some ((ql aG x1.Person v3.1.Name),(⟨[],0⟩:aj)))))))
def uw (N:Nat) (g0:af) (aI:(List (Str×ah))) (aC:(List (Str×ak))) (aG:(List (Str×Str))) (x1:bQ):Option ((List (Str×Str))×aj) :=
  (mG N x1.Person).bind fun v1=>bif (!v1) then ((jm N 4 ([]:(List Str))).bind fun v2=>some (aG,v2)) else (bif (!(nO aG x1.Person)) then ((jm N 6 ([]:(List Str))).bind fun v3=>some (aG,v3)) else (some ((F8 aG x1.Person),(⟨[],0⟩:aj))))
def rH (N:Nat) (g0:af) (aI:(List (Str×ah))) (aC:(List (Str×ak))) (aG:(List (Str×Str))) (x0:aF) (c1:bQ):Option Bool :=
  (bif (aJ .neq x0.Kind 5) then (nS N g0.plan x0.Space c1.Space) else some 0).bind fun v1=>some ((aJ .neq x0.Kind 5)&&(aJ .leq v1 1))
def kN (N:Nat) (g0:af) (aI:(List (Str×ah))) (aC:(List (Str×ak))) (aG:(List (Str×Str))) (lI:bQ) (s1:((List Str)×Int)):Option (((List Str)×Int) ⊕ (List Str)) :=
  bif (aJ .lss s1.2 (List.length g0.plan.ay:Int)) then ((idx g0.plan.ay s1.2).bind fun v2=>(iM N g0 aI aC aG v2.Name [2]).bind fun v3=>(bif v3 then (rH N g0 aI aC aG v2 lI) else some false).bind fun v4=>bif (v3&&v4) then ((app s1.1 [v2.Name]).bind fun v5=>some (.inl (v5,(IntKind.i64.wrap (s1.2+1))))) else (some (.inl (s1.1,(IntKind.i64.wrap (s1.2+1)))))) else (some (.inr s1.1))
def lm (N:Nat) (g0:af) (aI:(List (Str×ah))) (aC:(List (Str×ak))) (aG:(List (Str×Str))) (lI:bQ):Option (List Str) :=
  (dh (kN N g0 aI aC aG lI) N ([],0)).bind fun o8=>some o8
def qQ (N:Nat) (g0:af) (aC:(List (Str×ak))) (aG:(List (Str×Str))) (v3:(List Str)) (s4:(Int×(List (Str×ah)))):Option ((Int×(List (Str×ah))) ⊕ (List (Str×ah))) :=
  bif (aJ .lss s4.1 (List.length v3:Int)) then ((idx v3 s4.1).bind fun v5=>(iH N g0 s4.2 aC aG v5 3).bind fun v6=>some (.inl ((IntKind.i64.wrap (s4.1+1)),v6))) else (some (.inr s4.2))
def uy (N:Nat) (g0:af) (aI:(List (Str×ah))) (aC:(List (Str×ak))) (aG:(List (Str×Str))) (x1:bQ):Option ((List (Str×ah))×aj) :=
  (iF N g0.plan x1.Space).bind fun v1=>bif (!v1.2) then ((jm N 6 ([]:(List Str))).bind fun v2=>some (aI,v2)) else ((lm N g0 aI aC aG x1).bind fun v3=>(dh (qQ N g0 aC aG v3) N (0,aI)).bind fun o8=>some (o8,(⟨[],0⟩:aj)))
def sV (N:Nat) (g0:af) (aI:(List (Str×ah))) (aC:(List (Str×ak))) (aG:(List (Str×Str))) (x1:bQ):Option ((List (Str×ah))×aj) :=
  (mG N x1.Person).bind fun v1=>bif (!v1) then ((jm N 4 ([]:(List Str))).bind fun v2=>some (aI,v2)) else (bif ((aJ .leq x1.To ((gQ (⟨0,[],0⟩:ah) aI x1.Name).OH))||(aJ .gtr x1.To 1000000)) then ((jm N 2 ([]:(List Str))).bind fun v3=>some (aI,v3)) else (some ((ql aI x1.Name ({ (gQ (⟨0,[],0⟩:ah) aI x1.Name) with OH:=x1.To }:ah)),(⟨[],0⟩:aj))))
def Le (N:Nat) (g0:af) (aI:(List (Str×ah))) (aC:(List (Str×ak))) (aG:(List (Str×Str))) (n:(Option Nat)) (x1:bQ):Option ((List (Str×ah))×(List (Str×ak))×(List (Str×Str))×aj) :=
  bif decide (n=some 95) then ((uQ N g0 aI aC aG x1).bind fun y=>some (aI,aC,aG,y)) else (bif decide (n=some 96) then ((rJ N g0 aI aC aG x1).bind fun y=>some (y.1,aC,aG,y.2)) else (bif decide (n=some 97) then ((uo N g0 aI aC aG x1).bind fun y=>some (y.1,aC,aG,y.2)) else (bif decide (n=some 98) then ((rD N g0 aI aC aG x1).bind fun y=>some (y.1,aC,aG,y.2)) else (bif decide (n=some 99) then ((sQ N g0 aI aC aG x1).bind fun y=>some (y.1,aC,aG,y.2)) else (bif decide (n=some 100) then ((sS N g0 aI aC aG x1).bind fun y=>some (y.1,aC,aG,y.2)) else (bif decide (n=some 101) then ((vK N g0 aI aC aG x1).bind fun y=>some (aI,y.1,aG,y.2)) else (bif decide (n=some 102) then ((uq N g0 aI aC aG x1).bind fun y=>some (aI,aC,y.1,y.2)) else (bif decide (n=some 103) then ((uw N g0 aI aC aG x1).bind fun y=>some (aI,aC,y.1,y.2)) else (bif decide (n=some 104) then ((uy N g0 aI aC aG x1).bind fun y=>some (y.1,aC,aG,y.2)) else (bif decide (n=some 105) then ((sV N g0 aI aC aG x1).bind fun y=>some (y.1,aC,aG,y.2)) else (none)))))))))))
def rU (N:Nat) (g0:af) (aI:(List (Str×ah))) (aC:(List (Str×ak))) (aG:(List (Str×Str))) (x1:bQ):Option (af×(List (Str×ah))×(List (Str×ak))×(List (Str×Str))×(List Str)×Int) :=
  (xI N).bind fun v1=>(bif (!((aJ .lss x1.Op 0)||(aJ .geq x1.Op (List.length v1:Int)))) then (yN N x1.At) else some false).bind fun v2=>bif (((aJ .lss x1.Op 0)||(aJ .geq x1.Op (List.length v1:Int)))||(!v2)) then (some (g0,aI,aC,aG,[],2)) else (bif (aJ .lss x1.At g0.now) then (some (g0,aI,aC,aG,[],10)) else ((mF N ({ g0 with now:=x1.At }:af) aI aC aG).bind fun v3=>(idx v1 x1.Op).bind fun v4=>((bif (!(List.isEmpty v4.states)) then ((lV N (({ g0 with now:=x1.At }:af).plan) x1.Name).bind fun v5=>bif (!v5.2) then (some (Sum.inr ([],6))) else ((iM N ({ g0 with now:=x1.At }:af) v3 aC aG x1.Name v4.states).bind fun v6=>bif (!v6) then (some (Sum.inr ([],18))) else (some (Sum.inl ())))) else (some (Sum.inl ()))):Option (Unit ⊕ ((List Str)×Int))).bind fun Qg=>Sum.elim (fun l12=>(Le N ({ g0 with now:=x1.At }:af) v3 aC aG v4.do_ x1).bind fun v14=>bif (aJ .neq v14.2.2.2.e 0) then (some (({ g0 with now:=x1.At }:af),v14.1,v14.2.1,v14.2.2.1,v14.2.2.2.names,v14.2.2.2.e)) else ((mF N ({ g0 with now:=x1.At }:af) v14.1 v14.2.1 v14.2.2.1).bind fun v15=>(app (({ g0 with now:=x1.At }:af).done) [x1]).bind fun v16=>some (({ ({ g0 with now:=x1.At }:af) with done:=v16 }:af),v15,v14.2.1,v14.2.2.1,[],0))) (fun r13=>some (({ g0 with now:=x1.At }:af),v3,aC,aG,r13.1,r13.2)) Qg))
def wL (N:Nat):Option (Bool) :=
  (zA N).bind fun v1=>(BH N v1 ([100,101,99,107]:Str) ([104,111,108,100]:Str)).bind fun v2=>(Ak N v1).bind fun v3=>O6 v3 (fun VQ=>(uO N (none:(Option (af×Value×Value×Value))) (⟨0,1,([119,101,108,100]:Str),[],([97,110,110]:Str),0,0,0⟩:bQ)).bind fun v4=>(uO N (none:(Option (af×Value×Value×Value))) (⟨0,2,([119,101,108,100]:Str),[],([98,111,98]:Str),0,0,0⟩:bQ)).bind fun v5=>(bif (((((aJ .eql v2.2 0)&&(aJ .eql v2.1 2))&&(aJ .eql VQ 0))&&(aJ .eql v4.2 0))&&(aJ .eql v5.2 21)) then (uP N v5.1 [([116,97,110,107]:Str)]) else some false).bind fun v6=>some ((((((aJ .eql v2.2 0)&&(aJ .eql v2.1 2))&&(aJ .eql VQ 0))&&(aJ .eql v4.2 0))&&(aJ .eql v5.2 21))&&v6)) (fun D7 VQ=>(rU N D7.1 D7.2.1 D7.2.2.1 D7.2.2.2 (⟨0,1,([119,101,108,100]:Str),[],([97,110,110]:Str),0,0,0⟩:bQ)).bind fun v12=>(rU N v12.1 v12.2.1 v12.2.2.1 v12.2.2.2.1 (⟨0,2,([119,101,108,100]:Str),[],([98,111,98]:Str),0,0,0⟩:bQ)).bind fun v13=>(bif (((((aJ .eql v2.2 0)&&(aJ .eql v2.1 2))&&(aJ .eql VQ 0))&&(aJ .eql v12.2.2.2.2.2 0))&&(aJ .eql v13.2.2.2.2.2 21)) then (uP N v13.2.2.2.2.1 [([116,97,110,107]:Str)]) else some false).bind fun v14=>some ((((((aJ .eql v2.2 0)&&(aJ .eql v2.1 2))&&(aJ .eql VQ 0))&&(aJ .eql v12.2.2.2.2.2 0))&&(aJ .eql v13.2.2.2.2.2 21))&&v14))
def tX (N:Nat) (x0:GPermitPlan):Option (Int) :=
  (mZ N x0).bind fun v1=>bif (aJ .neq v1 0) then (some v1) else (bif (aJ .gtr (List.length x0.ay:Int) 10) then (some 8) else (some 0))
def qi (N:Nat) (x0:aF) (c0:Str):Option (Bool) :=
  some (zY .eql x0.Name c0)
def iY (N:Nat) (x0:(List aF)) (x1:(aF→Option Bool)):Option (Bool) :=
  (fK N x0 x1).bind fun v1=>some (aJ .geq v1 0)
def nC (N:Nat) (x1:(List aF)) (v2:aF) (s13:Int):Option (Int ⊕ (Unit ⊕ Bool)) :=
  bif (aJ .lss s13 (List.length v2.Locks:Int)) then ((idx v2.Locks s13).bind fun v14=>(iY N x1 (fun y0=>qi N y0 v14)).bind fun v15=>bif (!v15) then (some (.inr (Sum.inr false))) else (some (.inl (IntKind.i64.wrap (s13+1))))) else (some (.inr (Sum.inl ())))
def ny (N:Nat) (x0:GPermitPlan) (v2:aF) (v3:(List aF)) (s4:Int):Option (Int ⊕ (Unit ⊕ Bool)) :=
  bif (aJ .lss s4 (List.length v3:Int)) then ((idx v3 s4).bind fun v5=>(pR N x0 v2 v5).bind fun v6=>bif v6 then (some (.inr (Sum.inr false))) else (some (.inl (IntKind.i64.wrap (s4+1))))) else (some (.inr (Sum.inl ())))
def ni (N:Nat) (x0:GPermitPlan) (x1:(List aF)) (s1:Int):Option (Int ⊕ (Unit ⊕ Bool)) :=
  bif (aJ .lss s1 (List.length x1:Int)) then ((idx x1 s1).bind fun v2=>(SE x1 0 s1).bind fun v3=>(dh (ny N x0 v2 v3) N 0).bind fun o9=>Sum.elim (fun l11=>(dh (nC N x1 v2) N 0).bind fun Vf=>Sum.elim (fun l20=>some (.inl (IntKind.i64.wrap (s1+1)))) (fun r21=>some (.inr (Sum.inr r21))) Vf) (fun r12=>some (.inr (Sum.inr r12))) o9) else (some (.inr (Sum.inl ())))
def rW (N:Nat) (x0:GPermitPlan) (x1:(List aF)):Option (Bool) :=
  (dh (ni N x0 x1) N 0).bind fun QY=>Sum.elim (fun l27=>some true) (fun r28=>some r28) QY
def nK (N:Nat) (x0:(List (List Int))) (x1:((List Int)→(List Int)→Option Int)):Option (List (List Int)):=QL x1 x0
def tY (N:Nat) (x0:Int):Option (Bool) :=
  some (aJ .neq x0 x0)
def qL (N:Nat) (x0:Int) (x1:Int):Option (Int) :=
  (tY N x0).bind fun v1=>(tY N x1).bind fun v2=>bif v1 then (bif v2 then (some 0) else (some (-1))) else (bif v2 then (some 1) else (bif (aJ .lss x0 x1) then (some (-1)) else (bif (aJ .gtr x0 x1) then (some 1) else (some 0))))
def eP (N:Nat) (x0:(List Int)) (x1:(List Int)) (s1:Int):Option (Int ⊕ (Unit ⊕ Int)) :=
  bif (aJ .lss s1 (List.length x0:Int)) then ((idx x0 s1).bind fun v2=>bif (aJ .geq s1 (List.length x1:Int)) then (some (.inr (Sum.inr 1))) else ((idx x1 s1).bind fun v3=>(qL N v2 v3).bind fun v4=>bif (aJ .neq v4 0) then (some (.inr (Sum.inr v4))) else (some (.inl (IntKind.i64.wrap (s1+1)))))) else (some (.inr (Sum.inl ())))
def mg (N:Nat) (x0:(List Int)) (x1:(List Int)):Option (Int) :=
  (dh (eP N x0 x1) N 0).bind fun o8=>Sum.elim (fun l10=>bif (aJ .lss (List.length x0:Int) (List.length x1:Int)) then (some (-1)) else (some 0)) (fun r11=>some r11) o8
def mr (N:Nat) (x0:(List Int)) (s1:Int):Option (Int ⊕ (Unit ⊕ Int)) :=
  bif (aJ .lss s1 (List.length x0:Int)) then ((idx x0 s1).bind fun v2=>bif (aJ .neq v2 0) then (some (.inr (Sum.inr v2))) else (some (.inl (IntKind.i64.wrap (s1+1))))) else (some (.inr (Sum.inl ())))
def yX (N:Nat) (x0:(List Int)):Option (Int) :=
  (dh (mr N x0) N 0).bind fun o5=>Sum.elim (fun l7=>some 0) (fun r8=>some r8) o5
def jX (N:Nat) (x0:(List Int)) (x1:(List Int)):Option (Int) :=
  (qL N (List.length x0:Int) (List.length x1:Int)).bind fun v1=>(mg N x0 x1).bind fun v2=>(yX N [v1,v2]).bind fun v3=>some v3
def oN (N:Nat) (x0:GPermitPlan) (s2:((List (List Int))×Int)) (s3:((List Int)×(List aF)×Int)):Option (((List Int)×(List aF)×Int) ⊕ ((List Int)×(List aF))) :=
  bif (aJ .lss s3.2.2 (List.length x0.ay:Int)) then ((idx x0.ay s3.2.2).bind fun v4=>(PV .i64 s2.2 s3.2.2).bind fun v5=>bif (aJ .eql (PU .and .i64 v5 1) 1) then ((app s3.1 [s3.2.2]).bind fun v6=>(app s3.2.1 [v4]).bind fun v7=>some (.inl (v6,v7,(IntKind.i64.wrap (s3.2.2+1))))) else (some (.inl (s3.1,s3.2.1,(IntKind.i64.wrap (s3.2.2+1)))))) else (some (.inr (s3.1,s3.2.1)))
def oM (N:Nat) (x0:GPermitPlan) (v1:Int) (s2:((List (List Int))×Int)):Option (((List (List Int))×Int) ⊕ (List (List Int))) :=
  bif (aJ .lss s2.2 v1) then ((dh (oN N x0 s2) N ([],[],0)).bind fun Qg=>(rW N x0 Qg.2).bind fun v12=>bif v12 then ((app s2.1 [Qg.1]).bind fun v13=>some (.inl (v13,(IntKind.i64.wrap (s2.2+1))))) else (some (.inl (s2.1,(IntKind.i64.wrap (s2.2+1)))))) else (some (.inr s2.1))
def vC (N:Nat) (x0:GPermitPlan):Option ((List (List Int))) :=
  (Ux .i64 1 (List.length x0.ay:Int)).bind fun v1=>(dh (oM N x0 v1) N ([],0)).bind fun Q8=>(nK N Q8 (fun y0 y1=>jX N y0 y1)).bind fun v19=>some v19
def nX (N:Nat) (x0:GPermitPlan) (v2:(List Int)) (s3:((List Str)×Int)):Option (((List Str)×Int) ⊕ (List Str)) :=
  bif (aJ .lss s3.2 (List.length v2:Int)) then ((idx v2 s3.2).bind fun v4=>(idx x0.ay v4).bind fun v5=>(app s3.1 [v5.Name]).bind fun v6=>some (.inl (v6,(IntKind.i64.wrap (s3.2+1))))) else (some (.inr s3.1))
def pK (N:Nat) (x0:GPermitPlan) (x1:(List (List Int))) (s1:((List (List Str))×Int)):Option (((List (List Str))×Int) ⊕ (List (List Str))) :=
  bif (aJ .lss s1.2 (List.length x1:Int)) then ((idx x1 s1.2).bind fun v2=>(dh (nX N x0 v2) N ([],0)).bind fun o8=>(app s1.1 [o8]).bind fun v10=>some (.inl (v10,(IntKind.i64.wrap (s1.2+1))))) else (some (.inr s1.1))
def uf (N:Nat) (x0:GPermitPlan) (x1:(List (List Int))):Option ((List (List Str))) :=
  (dh (pK N x0 x1) N ([],0)).bind fun SA=>some SA
def jV (N:Nat) (x0:GPermitPlan):Option ((List (List Str))×Int) :=
  (tX N x0).bind fun v1=>bif (aJ .neq v1 0) then (some ([],v1)) else ((vC N x0).bind fun v2=>(uf N x0 v2).bind fun v3=>some (v3,0))
def ug (N:Nat) (x0:bV) (x1:Str) (s1:Int):Option (Int ⊕ (Unit ⊕ Bool)) :=
  bif (aJ .lss s1 (List.length x0.Next:Int)) then ((idx x0.Next s1).bind fun v2=>bif (zY .eql v2 x1) then (some (.inr (Sum.inr true))) else (some (.inl (IntKind.i64.wrap (s1+1))))) else (some (.inr (Sum.inl ())))
def vF (N:Nat) (x0:bV) (x1:Str):Option (Bool) :=
  (dh (ug N x0 x1) N 0).bind fun o5=>Sum.elim (fun l7=>some false) (fun r8=>some r8) o5
def uh (N:Nat) (x0:GPermitPlan) (x1:Str) (x2:Str):Option (Int) :=
  bif (zY .eql x1 x2) then (some 0) else ((oZ N x0 x1).bind fun v1=>(idx x0.bU v1).bind fun v2=>(vF N v2 x2).bind fun v3=>(bif (!v3) then (oZ N x0 x2) else some 0).bind fun v4=>(bif (!v3) then (idx x0.bU v4) else some (⟨[],false,[]⟩:bV)).bind fun v5=>(bif (!v3) then (vF N v5 x1) else some false).bind fun v6=>bif (v3||v6) then (some 1) else (some 2))
def qj (N:Nat) (x0:GPermitPlan) (v1:aF) (v2:aF) (v3:Int) (s4:Int):Option (Int ⊕ (Unit ⊕ Bool)) :=
  bif (aJ .lss s4 (List.length x0.dm:Int)) then ((idx x0.dm s4).bind fun v5=>bif ((((aJ .eql v5.A v1.Kind)&&(aJ .eql v5.B v2.Kind))||((aJ .eql v5.A v2.Kind)&&(aJ .eql v5.B v1.Kind)))&&(aJ .leq v3 v5.Reach)) then (some (.inr (Sum.inr true))) else (some (.inl (IntKind.i64.wrap (s4+1))))) else (some (.inr (Sum.inl ())))
def ul (N:Nat) (x0:GPermitPlan) (x1:Int) (x2:Int):Option (Bool) :=
  bif (aJ .eql x1 x2) then (some false) else ((idx x0.ay x1).bind fun v1=>(idx x0.ay x2).bind fun v2=>(uh N x0 v1.Space v2.Space).bind fun v3=>(dh (qj N x0 v1 v2 v3) N 0).bind fun o8=>Sum.elim (fun l10=>some false) (fun r11=>some r11) o8)
def ou (N:Nat) (x0:GPermitPlan) (x1:(List Bool)) (s1:Int) (s15:Int):Option (Int ⊕ (Unit ⊕ Bool)) :=
  bif (aJ .lss s15 s1) then ((idx x1 s1).bind fun v16=>(bif v16 then (idx x1 s15) else some false).bind fun v17=>(bif (v16&&v17) then (ul N x0 s1 s15) else some false).bind fun v18=>bif ((v16&&v17)&&v18) then (some (.inr (Sum.inr false))) else (some (.inl (IntKind.i64.wrap (s15+1))))) else (some (.inr (Sum.inl ())))
def kJ (N:Nat) (x0:GPermitPlan) (x1:(List Bool)) (s1:Int) (s2:Int):Option (Int ⊕ (Unit ⊕ Bool)) :=
  (idx x0.ay s1).bind fun v3=>(bif (aJ .lss s2 (List.length v3.Locks:Int)) then (idx x1 s1) else some false).bind fun v4=>bif ((aJ .lss s2 (List.length v3.Locks:Int))&&v4) then ((idx x0.ay s1).bind fun v5=>(idx v5.Locks s2).bind fun v6=>(qU N x0 v6).bind fun v7=>(idx x1 v7).bind fun v8=>bif (!v8) then (some (.inr (Sum.inr false))) else (some (.inl (IntKind.i64.wrap (s2+1))))) else (some (.inr (Sum.inl ())))
def oq (N:Nat) (x0:GPermitPlan) (x1:(List Bool)) (s1:Int):Option (Int ⊕ (Unit ⊕ Bool)) :=
  bif (aJ .lss s1 (List.length x0.ay:Int)) then ((dh (kJ N x0 x1 s1) N 0).bind fun Qj=>Sum.elim (fun l13=>(dh (ou N x0 x1 s1) N 0).bind fun o21=>Sum.elim (fun l23=>some (.inl (IntKind.i64.wrap (s1+1)))) (fun r24=>some (.inr (Sum.inr r24))) o21) (fun VR=>some (.inr (Sum.inr VR))) Qj) else (some (.inr (Sum.inl ())))
def um (N:Nat) (x0:GPermitPlan) (x1:(List Bool)):Option (Bool) :=
  (dh (oq N x0 x1) N 0).bind fun o28=>Sum.elim (fun l30=>some true) (fun r31=>some r31) o28
def qc (N:Nat) (x3:(List Int)) (s2:((List Bool)×Int)):Option (((List Bool)×Int) ⊕ (List Bool)) :=
  bif (aJ .lss s2.2 (List.length x3:Int)) then ((idx x3 s2.2).bind fun v3=>(idx s2.1 v3).bind fun v4=>some (.inl ((List.set s2.1 (Int.toNat v3) true),(IntKind.i64.wrap (s2.2+1))))) else (some (.inr s2.1))
def oC (N:Nat) (rc:GPermitPlan→Int→Int→(List Int)→Option ((List (List Int)))) (x0:GPermitPlan) (x1:Int) (x3:(List Int)) (s11:((List (List Int))×Int)):Option (((List (List Int))×Int) ⊕ (List (List Int))) :=
  bif (aJ .lss s11.2 (List.length x0.ay:Int)) then ((app ([]:(List Int)) x3).bind fun v12=>(app v12 [s11.2]).bind fun v13=>(rc x0 (IntKind.i64.wrap (x1 - 1)) (IntKind.i64.wrap (s11.2+1)) v13).bind fun v14=>(app s11.1 v14).bind fun v15=>some (.inl (v15,(IntKind.i64.wrap (s11.2+1))))) else (some (.inr s11.1))
def pz (N:Nat) (rc:GPermitPlan→Int→Int→(List Int)→Option ((List (List Int)))) (x0:GPermitPlan) (x1:Int) (x2:Int) (x3:(List Int)):Option ((List (List Int))) :=
  bif (aJ .eql x1 0) then ((mk false (List.length x0.ay:Int) (List.length x0.ay:Int)).bind fun v1=>(dh (qc N x3) N (v1,0)).bind fun o6=>(um N x0 o6).bind fun v8=>bif v8 then (some [x3]) else (some [])) else ((dh (oC N rc x0 x1 x3) N ([],x2)).bind fun Q8=>some Q8)
def mP (N:Nat):GPermitPlan→Int→Int→(List Int)→Option ((List (List Int))) :=
  match N with
  | 0=>fun _ _ _ _=>none
  | N+1=>fun x0 x1 x2 x3=>pz N (mP N) x0 x1 x2 x3
def pO (N:Nat) (x0:(List Int)) (x1:(List Int)) (s1:Int) (s2:(Bool×Int)):Option ((Bool×Int) ⊕ Bool) :=
  bif (aJ .lss s2.2 (List.length x1:Int)) then ((bif (!s2.1) then (idx x0 s1) else some 0).bind fun v3=>(bif (!s2.1) then (idx x1 s2.2) else some 0).bind fun v4=>some (.inl ((s2.1||(aJ .eql v3 v4)),(IntKind.i64.wrap (s2.2+1))))) else (some (.inr s2.1))
def pM (N:Nat) (x0:(List Int)) (x1:(List Int)) (s1:Int):Option (Int ⊕ (Unit ⊕ Bool)) :=
  bif (aJ .lss s1 (List.length x0:Int)) then ((dh (pO N x0 x1 s1) N (false,0)).bind fun o6=>bif (!o6) then (some (.inr (Sum.inr false))) else (some (.inl (IntKind.i64.wrap (s1+1))))) else (some (.inr (Sum.inl ())))
def vU (N:Nat) (x0:(List Int)) (x1:(List Int)):Option (Bool) :=
  (dh (pM N x0 x1) N 0).bind fun Qj=>Sum.elim (fun l13=>some true) (fun VR=>some VR) Qj
def kW (N:Nat) (x0:GPermitPlan) (o6:(List (List Int))) (s8:((List (List Str))×Int)) (MX:((List Str)×Int)):Option (((List Str)×Int) ⊕ (List Str)) :=
  (idx o6 s8.2).bind fun v19=>bif (aJ .lss MX.2 (List.length v19:Int)) then ((idx o6 s8.2).bind fun v20=>(idx v20 MX.2).bind fun v21=>(idx x0.ay v21).bind fun v22=>(app MX.1 [v22.Name]).bind fun v23=>some (.inl (v23,(IntKind.i64.wrap (MX.2+1))))) else (some (.inr MX.1))
def jP (N:Nat) (x1:Bool) (o6:(List (List Int))) (s8:((List (List Str))×Int)) (s9:(Bool×Int)):Option ((Bool×Int) ⊕ Bool) :=
  bif ((aJ .lss s9.2 (List.length o6:Int))&&x1) then ((bif s9.1 then (idx o6 s9.2) else some []).bind fun v10=>(bif s9.1 then (idx o6 s8.2) else some []).bind fun v11=>(bif (s9.1&&(!(aJ .leq (List.length v10:Int) (List.length v11:Int)))) then (idx o6 s8.2) else some []).bind fun v12=>(bif (s9.1&&(!(aJ .leq (List.length v10:Int) (List.length v11:Int)))) then (idx o6 s9.2) else some []).bind fun v13=>(bif (s9.1&&(!(aJ .leq (List.length v10:Int) (List.length v11:Int)))) then (vU N v12 v13) else some false).bind fun v14=>some (.inl ((s9.1&&((aJ .leq (List.length v10:Int) (List.length v11:Int))||(!v14))),(IntKind.i64.wrap (s9.2+1))))) else (some (.inr s9.1))
def kV (N:Nat) (x0:GPermitPlan) (x1:Bool) (o6:(List (List Int))) (s8:((List (List Str))×Int)):Option (((List (List Str))×Int) ⊕ (List (List Str))) :=
  bif (aJ .lss s8.2 (List.length o6:Int)) then ((dh (jP N x1 o6 s8) N (true,0)).bind fun o16=>bif (!o16) then (some (.inl (s8.1,(IntKind.i64.wrap (s8.2+1))))) else ((dh (kW N x0 o6 s8) N (([]:(List Str)),0)).bind fun QY=>(app s8.1 [QY]).bind fun v27=>some (.inl (v27,(IntKind.i64.wrap (s8.2+1)))))) else (some (.inr s8.1))
def kU (N:Nat) (x0:GPermitPlan) (s2:((List (List Int))×Int)):Option (((List (List Int))×Int) ⊕ (List (List Int))) :=
  bif (aJ .leq s2.2 (List.length x0.ay:Int)) then ((mP N x0 s2.2 0 ([]:(List Int))).bind fun v3=>(app s2.1 v3).bind fun v4=>some (.inl (v4,(IntKind.i64.wrap (s2.2+1))))) else (some (.inr s2.1))
def jK (N:Nat) (x0:GPermitPlan) (x1:Bool):Option ((List (List Str))×Int) :=
  (pU N x0).bind fun v1=>bif (aJ .neq v1 0) then (some ([],v1)) else (bif (aJ .gtr (List.length x0.ay:Int) 10) then (some ([],8)) else ((dh (kU N x0) N ([],0)).bind fun o6=>(dh (kV N x0 x1 o6) N ([],0)).bind fun o32=>some (o32,0)))
def pq (N:Nat) (x0:Int) (c0:(List Int)):Option (Bool) :=
  (jT N c0 x0).bind fun v1=>some (!v1)
def jl (N:Nat) (x0:(List Int)) (x1:(Int→Option Bool)) (s1:Int):Option (Int ⊕ (Unit ⊕ Int)) :=
  bif (aJ .lss s1 (List.length x0:Int)) then ((idx x0 s1).bind fun v2=>(x1 v2).bind fun v3=>bif v3 then (some (.inr (Sum.inr s1))) else (some (.inl (IntKind.i64.wrap (s1+1))))) else (some (.inr (Sum.inl ())))
def nU (N:Nat) (x0:(List Int)) (x1:(Int→Option Bool)):Option (Int) :=
  (dh (jl N x0 x1) N 0).bind fun o6=>Sum.elim (fun l8=>some (-1)) (fun r9=>some r9) o6
def jR (N:Nat) (x0:(List Int)) (x1:(Int→Option Bool)):Option (Bool) :=
  (nU N x0 x1).bind fun v1=>some (aJ .geq v1 0)
def oL (N:Nat) (x0:(List Int)) (c0:(List Int)):Option (Bool) :=
  (bif (aJ .gtr (List.length x0:Int) (List.length c0:Int)) then (jR N c0 (fun y0=>pq N y0 x0)) else some false).bind fun v1=>some ((aJ .gtr (List.length x0:Int) (List.length c0:Int))&&(!v1))
def jb (N:Nat) (x0:(List (List Int))) (x1:((List Int)→Option Bool)) (s1:Int):Option (Int ⊕ (Unit ⊕ Int)) :=
  bif (aJ .lss s1 (List.length x0:Int)) then ((idx x0 s1).bind fun v2=>(x1 v2).bind fun v3=>bif v3 then (some (.inr (Sum.inr s1))) else (some (.inl (IntKind.i64.wrap (s1+1))))) else (some (.inr (Sum.inl ())))
def mO (N:Nat) (x0:(List (List Int))) (x1:((List Int)→Option Bool)):Option (Int) :=
  (dh (jb N x0 x1) N 0).bind fun o6=>Sum.elim (fun l8=>some (-1)) (fun r9=>some r9) o6
def jA (N:Nat) (x0:(List (List Int))) (x1:((List Int)→Option Bool)):Option (Bool) :=
  (mO N x0 x1).bind fun v1=>some (aJ .geq v1 0)
def lM (N:Nat) (v2:(List (List Int))) (s3:((List (List Int))×Int)):Option (((List (List Int))×Int) ⊕ (List (List Int))) :=
  bif (aJ .lss s3.2 (List.length v2:Int)) then ((idx v2 s3.2).bind fun v4=>(jA N v2 (fun y0=>oL N y0 v4)).bind fun v5=>bif (!v5) then ((app s3.1 [v4]).bind fun v6=>some (.inl (v6,(IntKind.i64.wrap (s3.2+1))))) else (some (.inl (s3.1,(IntKind.i64.wrap (s3.2+1)))))) else (some (.inr s3.1))
def kZ (N:Nat) (x0:GPermitPlan):Option ((List (List Str))×Int) :=
  (tX N x0).bind fun v1=>bif (aJ .neq v1 0) then (some ([],v1)) else ((vC N x0).bind fun v2=>(dh (lM N v2) N ([],0)).bind fun o9=>(uf N x0 o9).bind fun v11=>some (v11,0))
def qK (N:Nat) (x0:(List (List Str))) (x1:(List (List Str))) (s1:Int):Option (Int ⊕ (Unit ⊕ Bool)) :=
  bif (aJ .lss s1 (List.length x0:Int)) then ((idx x0 s1).bind fun v2=>(idx x1 s1).bind fun v3=>(uP N v2 v3).bind fun v4=>bif (!v4) then (some (.inr (Sum.inr false))) else (some (.inl (IntKind.i64.wrap (s1+1))))) else (some (.inr (Sum.inl ())))
def vw (N:Nat) (x0:(List (List Str))) (x1:(List (List Str))):Option (Bool) :=
  bif (aJ .neq (List.length x0:Int) (List.length x1:Int)) then (some false) else ((dh (qK N x0 x1) N 0).bind fun o7=>Sum.elim (fun l9=>some true) (fun r10=>some r10) o7)
def uJ (N:Nat) (x0:GPermitPlan):Option (Bool) :=
  (vH N x0).bind fun v1=>(bif (!v1) then (pU N x0) else some 0).bind fun v2=>bif (v1||(((aJ .eql v2 0)&&(aJ .gtr (List.length x0.ay:Int) 6))&&(aJ .leq (List.length x0.ay:Int) 10))) then ((wL N).bind fun v3=>some v3) else ((jV N x0).bind fun v4=>(jK N x0 false).bind fun v5=>(kZ N x0).bind fun v6=>(jK N x0 true).bind fun v7=>(vw N v4.1 v5.1).bind fun v8=>(bif (v8&&(aJ .eql v4.2 v5.2)) then (vw N v6.1 v7.1) else some false).bind fun v9=>(bif (((v8&&(aJ .eql v4.2 v5.2))&&v9)&&(aJ .eql v6.2 v7.2)) then (wL N) else some false).bind fun v10=>some ((((v8&&(aJ .eql v4.2 v5.2))&&v9)&&(aJ .eql v6.2 v7.2))&&v10))
end
end Go.KB
