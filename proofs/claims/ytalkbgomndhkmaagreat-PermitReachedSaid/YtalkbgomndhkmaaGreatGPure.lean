/- The functions as plain Lean functions. Printed by a program. No condition. -/
import Derived.Test.YtalkbgomndhkmaaGreatGTypes
import Derived.Test.YtalkbgomndhkmaaGreatKSos
import Derived.Test.YtalkbgomndhkmaaGreatKSg
namespace Go.KB
set_option linter.unusedVariables false
noncomputable section
def oD (N:Nat) (x0:GPermitPlan) (s10:Int):Option (Int ⊕ (Unit ⊕ Bool)) :=
  bif (aN .lss s10 (List.length x0.ax:Int)) then ((idx x0.ax s10).bind fun v11=>(bif (!(aN .gtr (List.length v11.Locks:Int) 20)) then (idx x0.ax s10) else some (⟨[],0,[],0,0,[]⟩:aA)).bind fun v12=>bif ((aN .gtr (List.length v11.Locks:Int) 20)||(aN .gtr (List.length v12.Name:Int) 40)) then (some (.inr (Sum.inr true))) else (some (.inl (IntKind.i64.wrap (s10+1))))) else (some (.inr (Sum.inl ())))
def oC (N:Nat) (x0:GPermitPlan) (s1:Int):Option (Int ⊕ (Unit ⊕ Bool)) :=
  bif (aN .lss s1 (List.length x0.bK:Int)) then ((idx x0.bK s1).bind fun v2=>(bif (!(aN .gtr (List.length v2.Next:Int) 40)) then (idx x0.bK s1) else some (⟨[],false,[]⟩:bV)).bind fun v3=>bif ((aN .gtr (List.length v2.Next:Int) 40)||(aN .gtr (List.length v3.Name:Int) 40)) then (some (.inr (Sum.inr true))) else (some (.inl (IntKind.i64.wrap (s1+1))))) else (some (.inr (Sum.inl ())))
def vG (N:Nat) (x0:GPermitPlan):Option (Bool) :=
  bif (((aN .gtr (List.length x0.bK:Int) 40)||(aN .gtr (List.length x0.dh:Int) 40))||(aN .gtr (List.length x0.ax:Int) 30)) then (some true) else ((bZ (oC N x0) N 0).bind fun o6=>Sum.elim (fun l8=>(bZ (oD N x0) N 0).bind fun TA=>Sum.elim (fun l17=>some false) (fun Xu=>some Xu) TA) (fun r9=>some r9) o6)
def yc (N:Nat) (x0:Str) (s1:Int):Option (Int ⊕ (Unit ⊕ Bool)) :=
  bif (aN .lss s1 (List.length x0:Int)) then ((idx x0 s1).bind fun v2=>bif ((!(((aN .geq ((UInt8.toNat v2:Nat):Int) 97)&&(aN .leq ((UInt8.toNat v2:Nat):Int) 122))||((aN .geq ((UInt8.toNat v2:Nat):Int) 65)&&(aN .leq ((UInt8.toNat v2:Nat):Int) 90))))&&((aN .eql s1 0)||((aN .neq ((UInt8.toNat v2:Nat):Int) 45)&&((aN .lss ((UInt8.toNat v2:Nat):Int) 48)||(aN .gtr ((UInt8.toNat v2:Nat):Int) 57))))) then (some (.inr (Sum.inr false))) else (some (.inl (IntKind.i64.wrap (s1+1))))) else (some (.inr (Sum.inl ())))
def wL (N:Nat) (x0:Str):Option (Bool) :=
  bif ((aN .lss (List.length x0:Int) 1)||(aN .gtr (List.length x0:Int) 12)) then (some false) else ((bZ (yc N x0) N 0).bind fun o5=>Sum.elim (fun l7=>some true) (fun r8=>some r8) o5)
def uF (N:Nat) (x0:GPermitPlan) (x1:Str) (s1:Int):Option (Int ⊕ (Unit ⊕ Int)) :=
  bif (aN .lss s1 (List.length x0.bK:Int)) then ((idx x0.bK s1).bind fun v2=>bif (Ae .eql v2.Name x1) then (some (.inr (Sum.inr s1))) else (some (.inl (IntKind.i64.wrap (s1+1))))) else (some (.inr (Sum.inl ())))
def tq (N:Nat) (x0:GPermitPlan) (x1:Str):Option (Int) :=
  (bZ (uF N x0 x1) N 0).bind fun o5=>Sum.elim (fun l7=>some (-1)) (fun r8=>some r8) o5
def uG (N:Nat) (x0:GPermitPlan) (x1:Int) (x2:Str):Option (Bool) :=
  (tq N x0 x2).bind fun v1=>some ((aN .geq v1 0)&&(aN .lss v1 x1))
def mJ (N:Nat) (x0:GPermitPlan) (s15:Int) (s16:Int):Option (Int ⊕ (Unit ⊕ Int)) :=
  (idx x0.bK s15).bind fun v17=>bif (aN .lss s16 (List.length v17.Next:Int)) then ((idx x0.bK s15).bind fun v18=>(idx v18.Next s16).bind fun v19=>(tq N x0 v19).bind fun v20=>bif (aN .lss v20 0) then (some (.inr (Sum.inr 6))) else ((idx x0.bK s15).bind fun v21=>(idx v21.Next s16).bind fun v22=>(idx x0.bK s15).bind fun v23=>bif (Ae .eql v22 v23.Name) then (some (.inr (Sum.inr 3))) else (some (.inl (IntKind.i64.wrap (s16+1)))))) else (some (.inr (Sum.inl ())))
def mG (N:Nat) (x0:GPermitPlan) (s15:Int):Option (Int ⊕ (Unit ⊕ Int)) :=
  bif (aN .lss s15 (List.length x0.bK:Int)) then ((bZ (mJ N x0 s15) N 0).bind fun o27=>Sum.elim (fun l29=>some (.inl (IntKind.i64.wrap (s15+1)))) (fun r30=>some (.inr (Sum.inr r30))) o27) else (some (.inr (Sum.inl ())))
def mF (N:Nat) (x0:GPermitPlan) (s1:Int):Option (Int ⊕ (Unit ⊕ Int)) :=
  bif (aN .lss s1 (List.length x0.bK:Int)) then ((idx x0.bK s1).bind fun v2=>(wL N v2.Name).bind fun v3=>bif (!v3) then (some (.inr (Sum.inr 4))) else ((idx x0.bK s1).bind fun v4=>(uG N x0 s1 v4.Name).bind fun v5=>bif v5 then (some (.inr (Sum.inr 5))) else ((idx x0.bK s1).bind fun v6=>bif (aN .gtr (List.length v6.Next:Int) 30) then (some (.inr (Sum.inr 8))) else (some (.inl (IntKind.i64.wrap (s1+1))))))) else (some (.inr (Sum.inl ())))
def qL (N:Nat) (x0:GPermitPlan):Option (Int) :=
  (bZ (mF N x0) N 0).bind fun Xr=>Sum.elim (fun l13=>(bZ (mG N x0) N 0).bind fun o33=>Sum.elim (fun l35=>some 0) (fun r36=>some r36) o33) (fun r14=>some r14) Xr
def wz (N:Nat) (x0:Int):Option (Bool) :=
  some ((aN .geq x0 0)&&(aN .leq x0 5))
def sF (N:Nat) (x0:GPermitPlan) (x1:Str) (s1:Int):Option (Int ⊕ (Unit ⊕ Int)) :=
  bif (aN .lss s1 (List.length x0.ax:Int)) then ((idx x0.ax s1).bind fun v2=>bif (Ae .eql v2.Name x1) then (some (.inr (Sum.inr s1))) else (some (.inl (IntKind.i64.wrap (s1+1))))) else (some (.inr (Sum.inl ())))
def uH (N:Nat) (x0:GPermitPlan) (x1:Str):Option (Int) :=
  (bZ (sF N x0 x1) N 0).bind fun o5=>Sum.elim (fun l7=>some (-1)) (fun r8=>some r8) o5
def oI (N:Nat) (x0:GPermitPlan) (v29:aA) (s30:Int):Option (Int ⊕ (Unit ⊕ Int)) :=
  bif (aN .lss s30 (List.length v29.Locks:Int)) then ((idx v29.Locks s30).bind fun v31=>(uH N x0 v31).bind fun v32=>bif (aN .lss v32 0) then (some (.inr (Sum.inr 6))) else ((idx x0.ax v32).bind fun v33=>bif ((aN .neq v33.Kind 5)||(aN .eql v29.Kind 5)) then (some (.inr (Sum.inr 3))) else (some (.inl (IntKind.i64.wrap (s30+1)))))) else (some (.inr (Sum.inl ())))
def oH (N:Nat) (x0:GPermitPlan) (Yl:Int):Option (Int ⊕ (Unit ⊕ Int)) :=
  bif (aN .lss Yl (List.length x0.ax:Int)) then ((idx x0.ax Yl).bind fun v29=>(bZ (oI N x0 v29) N 0).bind fun o37=>Sum.elim (fun l39=>some (.inl (IntKind.i64.wrap (Yl+1)))) (fun r40=>some (.inr (Sum.inr r40))) o37) else (some (.inr (Sum.inl ())))
def oG (N:Nat) (x0:GPermitPlan) (s12:Int):Option (Int ⊕ (Unit ⊕ Int)) :=
  bif (aN .lss s12 (List.length x0.ax:Int)) then ((idx x0.ax s12).bind fun v13=>(wL N v13.Name).bind fun v14=>bif (!v14) then (some (.inr (Sum.inr 4))) else ((uH N x0 v13.Name).bind fun v15=>bif (aN .lss v15 s12) then (some (.inr (Sum.inr 5))) else ((wz N v13.Kind).bind fun v16=>bif ((((!v16)||(aN .lss v13.From 0))||(aN .geq v13.From v13.To))||(aN .gtr v13.To 1000000)) then (some (.inr (Sum.inr 2))) else ((tq N x0 v13.Space).bind fun v17=>bif (aN .lss v17 0) then (some (.inr (Sum.inr 6))) else (bif (aN .gtr (List.length v13.Locks:Int) 10) then (some (.inr (Sum.inr 8))) else (some (.inl (IntKind.i64.wrap (s12+1))))))))) else (some (.inr (Sum.inl ())))
def sH (N:Nat) (x0:GPermitPlan) (s2:Int):Option (Int ⊕ (Unit ⊕ Int)) :=
  bif (aN .lss s2 (List.length x0.dh:Int)) then ((idx x0.dh s2).bind fun v3=>(wz N v3.A).bind fun v4=>(bif (!(!v4)) then (wz N v3.B) else some false).bind fun v5=>bif ((((!v4)||(!v5))||(aN .lss v3.Reach 0))||(aN .gtr v3.Reach 2)) then (some (.inr (Sum.inr 2))) else (some (.inl (IntKind.i64.wrap (s2+1))))) else (some (.inr (Sum.inl ())))
def sG (N:Nat) (x0:GPermitPlan):Option (Int) :=
  bif (((aN .gtr (List.length x0.bK:Int) 30)||(aN .gtr (List.length x0.dh:Int) 30))||(aN .gtr (List.length x0.ax:Int) 20)) then (some 8) else (bif ((aN .lss x0.dS 1)||(aN .gtr x0.dS 10000)) then (some 2) else ((qL N x0).bind fun v1=>bif (aN .neq v1 0) then (some v1) else ((bZ (sH N x0) N 0).bind fun o8=>Sum.elim (fun l10=>(bZ (oG N x0) N 0).bind fun Xv=>Sum.elim (fun l26=>(bZ (oH N x0) N 0).bind fun o43=>Sum.elim (fun l45=>some 0) (fun r46=>some r46) o43) (fun r27=>some r27) Xv) (fun r11=>some r11) o8)))
def xw (N:Nat) (x0:GPermitPlan):Option (Bool) :=
  (vG N x0).bind fun v1=>(bif (!v1) then (sG N x0) else some 0).bind fun v2=>some (((((!v1)&&(aN .eql v2 0))&&(aN .leq (List.length x0.bK:Int) 8))&&(aN .leq (List.length x0.ax:Int) 8))&&(aN .leq (List.length x0.dh:Int) 12))
def yh (N:Nat):Option ((List bF)) :=
  some [(⟨0,2,1⟩:bF),(⟨3,0,1⟩:bF),(⟨3,1,1⟩:bF),(⟨3,2,1⟩:bF),(⟨3,3,1⟩:bF),(⟨4,4,0⟩:bF)]
def y7 (N:Nat):Option (GPermitPlan) :=
  (yh N).bind fun v1=>some (⟨[(⟨([100,101,99,107]:Str),false,[([116,97,110,107]:Str)]⟩:bV),(⟨([116,97,110,107]:Str),true,[]⟩:bV),(⟨([104,111,108,100]:Str),true,[([116,97,110,107]:Str)]⟩:bV)],v1,[(⟨([119,101,108,100]:Str),0,([100,101,99,107]:Str),0,600,[]⟩:aA),(⟨([103,111]:Str),1,([116,97,110,107]:Str),0,600,[([112,117,109,112]:Str)]⟩:aA),(⟨([112,97,105,110,116]:Str),2,([104,111,108,100]:Str),0,600,[]⟩:aA),(⟨([112,117,109,112]:Str),5,([116,97,110,107]:Str),0,600,[]⟩:aA)],60⟩:GPermitPlan)
def ve (N:Nat) (x0:Int):Option (Bool) :=
  some (((aN .geq x0 97)&&(aN .leq x0 122))||((aN .geq x0 65)&&(aN .leq x0 90)))
def ql (N:Nat) (x0:Str) (s3:Int):Option (Int ⊕ (Unit ⊕ Bool)) :=
  bif (aN .lss s3 (List.length x0:Int)) then ((idx x0 s3).bind fun v4=>(ve N ((UInt8.toNat v4:Nat):Int)).bind fun v5=>bif (((!v5)&&(aN .neq ((UInt8.toNat v4:Nat):Int) 45))&&((aN .lss ((UInt8.toNat v4:Nat):Int) 48)||(aN .gtr ((UInt8.toNat v4:Nat):Int) 57))) then (some (.inr (Sum.inr false))) else (some (.inl (IntKind.i64.wrap (s3+1))))) else (some (.inr (Sum.inl ())))
def nM (N:Nat) (x0:Str):Option (Bool) :=
  (bif (!((aN .lss (List.length x0:Int) 1)||(aN .gtr (List.length x0:Int) 12))) then (idx x0 0) else some 0).bind fun v1=>(bif (!((aN .lss (List.length x0:Int) 1)||(aN .gtr (List.length x0:Int) 12))) then (ve N ((UInt8.toNat v1:Nat):Int)) else some false).bind fun v2=>bif (((aN .lss (List.length x0:Int) 1)||(aN .gtr (List.length x0:Int) 12))||(!v2)) then (some false) else ((bZ (ql N x0) N 0).bind fun o8=>Sum.elim (fun l10=>some true) (fun r11=>some r11) o8)
def lZ (N:Nat) (l10:(List (Str×Bool))) (v13:bV) (s14:Int):Option (Int ⊕ (Unit ⊕ Int)) :=
  bif (aN .lss s14 (List.length v13.Next:Int)) then ((idx v13.Next s14).bind fun v15=>bif (!(iC false l10 v15)) then (some (.inr (Sum.inr 6))) else (bif (Ae .eql v15 v13.Name) then (some (.inr (Sum.inr 3))) else (some (.inl (IntKind.i64.wrap (s14+1)))))) else (some (.inr (Sum.inl ())))
def lY (N:Nat) (x0:GPermitPlan) (l10:(List (Str×Bool))) (s12:Int):Option (Int ⊕ (Unit ⊕ Int)) :=
  bif (aN .lss s12 (List.length x0.bK:Int)) then ((idx x0.bK s12).bind fun v13=>(bZ (lZ N l10 v13) N 0).bind fun Xe=>Sum.elim (fun l21=>some (.inl (IntKind.i64.wrap (s12+1)))) (fun r22=>some (.inr (Sum.inr r22))) Xe) else (some (.inr (Sum.inl ())))
def lX (N:Nat) (x0:GPermitPlan) (s1:((List (Str×Bool))×Int)):Option (((List (Str×Bool))×Int) ⊕ ((List (Str×Bool)) ⊕ Int)) :=
  bif (aN .lss s1.2 (List.length x0.bK:Int)) then ((idx x0.bK s1.2).bind fun v2=>(nM N v2.Name).bind fun v3=>bif (!v3) then (some (.inr (Sum.inr 4))) else (bif (iC false s1.1 v2.Name) then (some (.inr (Sum.inr 5))) else (bif (aN .gtr (List.length v2.Next:Int) 30) then (some (.inr (Sum.inr 8))) else (some (.inl ((pI s1.1 v2.Name true),(IntKind.i64.wrap (s1.2+1)))))))) else (some (.inr (Sum.inl s1.1)))
def qw (N:Nat) (x0:GPermitPlan):Option (Int) :=
  (bZ (lX N x0) N (([]:(List (Str×Bool))),0)).bind fun o8=>Sum.elim (fun l10=>(bZ (lY N x0 l10) N 0).bind fun Xn=>Sum.elim (fun l27=>some 0) (fun r28=>some r28) Xn) (fun r11=>some r11) o8
def vH (N:Nat) (x0:Int):Option (Bool) :=
  some ((aN .geq x0 0)&&(aN .leq x0 5))
def rD (N:Nat) (x0:bV) (c0:Str):Option (Bool) :=
  some (Ae .eql x0.Name c0)
def iU (N:Nat) (x0:(List bV)) (x1:(bV→Option Bool)) (s1:Int):Option (Int ⊕ (Unit ⊕ Int)) :=
  bif (aN .lss s1 (List.length x0:Int)) then ((idx x0 s1).bind fun v2=>(x1 v2).bind fun v3=>bif v3 then (some (.inr (Sum.inr s1))) else (some (.inl (IntKind.i64.wrap (s1+1))))) else (some (.inr (Sum.inl ())))
def jh (N:Nat) (x0:(List bV)) (x1:(bV→Option Bool)):Option (Int) :=
  (bZ (iU N x0 x1) N 0).bind fun o6=>Sum.elim (fun l8=>some (-1)) (fun r9=>some r9) o6
def iE (N:Nat) (x0:GPermitPlan) (x1:Str):Option (bV×Bool) :=
  (jh N x0.bK (fun y0=>rD N y0 x1)).bind fun v1=>bif (aN .lss v1 0) then (some ((⟨[],false,[]⟩:bV),false)) else ((idx x0.bK v1).bind fun v2=>some (v2,true))
def qM (N:Nat) (x0:aA) (c0:Str):Option (Bool) :=
  some (Ae .eql x0.Name c0)
def iI (N:Nat) (x0:(List aA)) (x1:(aA→Option Bool)) (s1:Int):Option (Int ⊕ (Unit ⊕ Int)) :=
  bif (aN .lss s1 (List.length x0:Int)) then ((idx x0 s1).bind fun v2=>(x1 v2).bind fun v3=>bif v3 then (some (.inr (Sum.inr s1))) else (some (.inl (IntKind.i64.wrap (s1+1))))) else (some (.inr (Sum.inl ())))
def gQ (N:Nat) (x0:(List aA)) (x1:(aA→Option Bool)):Option (Int) :=
  (bZ (iI N x0 x1) N 0).bind fun o6=>Sum.elim (fun l8=>some (-1)) (fun r9=>some r9) o6
def lU (N:Nat) (x0:GPermitPlan) (x1:Str):Option (aA×Bool) :=
  (gQ N x0.ax (fun y0=>qM N y0 x1)).bind fun v1=>bif (aN .lss v1 0) then (some ((⟨[],0,[],0,0,[]⟩:aA),false)) else ((idx x0.ax v1).bind fun v2=>some (v2,true))
def lH (N:Nat) (x0:GPermitPlan) (v17:aA) (s18:Int):Option (Int ⊕ (Unit ⊕ Int)) :=
  bif (aN .lss s18 (List.length v17.Locks:Int)) then ((idx v17.Locks s18).bind fun v19=>(lU N x0 v19).bind fun v20=>bif (!v20.2) then (some (.inr (Sum.inr 6))) else (bif ((aN .neq v20.1.Kind 5)||(aN .eql v17.Kind 5)) then (some (.inr (Sum.inr 3))) else (some (.inl (IntKind.i64.wrap (s18+1)))))) else (some (.inr (Sum.inl ())))
def lG (N:Nat) (x0:GPermitPlan) (s16:Int):Option (Int ⊕ (Unit ⊕ Int)) :=
  bif (aN .lss s16 (List.length x0.ax:Int)) then ((idx x0.ax s16).bind fun v17=>(bZ (lH N x0 v17) N 0).bind fun Xv=>Sum.elim (fun l26=>some (.inl (IntKind.i64.wrap (s16+1)))) (fun r27=>some (.inr (Sum.inr r27))) Xv) else (some (.inr (Sum.inl ())))
def lF (N:Nat) (x0:GPermitPlan) (s1:((List (Str×Bool))×Int)):Option (((List (Str×Bool))×Int) ⊕ (Unit ⊕ Int)) :=
  bif (aN .lss s1.2 (List.length x0.ax:Int)) then ((idx x0.ax s1.2).bind fun v2=>(iE N x0 v2.Space).bind fun v3=>(nM N v2.Name).bind fun v4=>bif (!v4) then (some (.inr (Sum.inr 4))) else (bif (iC false s1.1 v2.Name) then (some (.inr (Sum.inr 5))) else ((vH N v2.Kind).bind fun v5=>bif ((((!v5)||(aN .lss v2.From 0))||(aN .geq v2.From v2.To))||(aN .gtr v2.To 1000000)) then (some (.inr (Sum.inr 2))) else (bif (!v3.2) then (some (.inr (Sum.inr 6))) else (bif (aN .gtr (List.length v2.Locks:Int) 10) then (some (.inr (Sum.inr 8))) else (some (.inl ((pI s1.1 v2.Name true),(IntKind.i64.wrap (s1.2+1)))))))))) else (some (.inr (Sum.inl ())))
def pW (N:Nat) (x0:GPermitPlan):Option (Int) :=
  (bZ (lF N x0) N (([]:(List (Str×Bool))),0)).bind fun UJ=>Sum.elim (fun l14=>(bZ (lG N x0) N 0).bind fun o30=>Sum.elim (fun l32=>some 0) (fun r33=>some r33) o30) (fun r15=>some r15) UJ
def nG (N:Nat) (x0:GPermitPlan) (s2:Int):Option (Int ⊕ (Unit ⊕ Int)) :=
  bif (aN .lss s2 (List.length x0.dh:Int)) then ((idx x0.dh s2).bind fun v3=>(vH N v3.A).bind fun v4=>(bif (!(!v4)) then (vH N v3.B) else some false).bind fun v5=>bif ((((!v4)||(!v5))||(aN .lss v3.Reach 0))||(aN .gtr v3.Reach 2)) then (some (.inr (Sum.inr 2))) else (some (.inl (IntKind.i64.wrap (s2+1))))) else (some (.inr (Sum.inl ())))
def nU (N:Nat) (x0:GPermitPlan):Option (Int) :=
  bif (((aN .gtr (List.length x0.bK:Int) 30)||(aN .gtr (List.length x0.dh:Int) 30))||(aN .gtr (List.length x0.ax:Int) 20)) then (some 8) else (bif ((aN .lss x0.dS 1)||(aN .gtr x0.dS 10000)) then (some 2) else ((qw N x0).bind fun v1=>bif (aN .neq v1 0) then (some v1) else ((bZ (nG N x0) N 0).bind fun o8=>Sum.elim (fun l10=>(pW N x0).bind fun v12=>some v12) (fun r11=>some r11) o8)))
def jB (N:Nat) (x0:(List Str)) (x1:Str) (s1:Int):Option (Int ⊕ (Unit ⊕ Int)) :=
  bif (aN .lss s1 (List.length x0:Int)) then ((idx x0 s1).bind fun v2=>bif (Ae .eql x1 v2) then (some (.inr (Sum.inr s1))) else (some (.inl (IntKind.i64.wrap (s1+1))))) else (some (.inr (Sum.inl ())))
def nS (N:Nat) (x0:(List Str)) (x1:Str):Option (Int) :=
  (bZ (jB N x0 x1) N 0).bind fun o5=>Sum.elim (fun l7=>some (-1)) (fun r8=>some r8) o5
def fO (N:Nat) (x0:(List Str)) (x1:Str):Option (Bool) :=
  (nS N x0 x1).bind fun v1=>some (aN .geq v1 0)
def oU (N:Nat) (x0:GPermitPlan) (x1:Str) (x2:Str):Option (Int) :=
  (iE N x0 x1).bind fun v1=>(iE N x0 x2).bind fun v2=>bif (Ae .eql x1 x2) then (some 0) else ((fO N v1.1.Next x2).bind fun v3=>(bif (!v3) then (fO N v2.1.Next x1) else some false).bind fun v4=>bif (v3||v4) then (some 1) else (some 2))
def Bh (N:Nat) (x0:GPermitPlan) (x1:Str) (x2:Str):Option (Int×Int) :=
  (nU N x0).bind fun v1=>bif (aN .neq v1 0) then (some (0,v1)) else ((iE N x0 x1).bind fun v2=>(iE N x0 x2).bind fun v3=>bif ((!v2.2)||(!v3.2)) then (some (0,6)) else ((oU N x0 x1 x2).bind fun v4=>some (v4,0)))
def jM (N:Nat) (x0:(List bV)):Option ((List bV)) :=
  (app ([]:(List bV)) x0).bind fun v1=>some v1
def iO (N:Nat) (x0:(List bF)):Option ((List bF)) :=
  (app ([]:(List bF)) x0).bind fun v1=>some v1
def jy (N:Nat) (x0:(List aA)):Option ((List aA)) :=
  (app ([]:(List aA)) x0).bind fun v1=>some v1
def fA (N:Nat) (x0:(List Str)):Option ((List Str)) :=
  (app ([]:(List Str)) x0).bind fun v1=>some v1
def nX (N:Nat) (v3:(List aA)) (s14:(Int×(List aA))):Option ((Int×(List aA)) ⊕ (List aA)) :=
  bif (aN .lss s14.1 (List.length v3:Int)) then ((idx s14.2 s14.1).bind fun v15=>(fA N v15.Locks).bind fun v16=>(idx s14.2 s14.1).bind fun v17=>some (.inl ((IntKind.i64.wrap (s14.1+1)),(List.set s14.2 (Int.toNat s14.1) ({ v17 with Locks:=v16 }:aA))))) else (some (.inr s14.2))
def nV (N:Nat) (v1:(List bV)) (s7:(Int×(List bV))):Option ((Int×(List bV)) ⊕ (List bV)) :=
  bif (aN .lss s7.1 (List.length v1:Int)) then ((idx s7.2 s7.1).bind fun v8=>(fA N v8.Next).bind fun v9=>(idx s7.2 s7.1).bind fun v10=>some (.inl ((IntKind.i64.wrap (s7.1+1)),(List.set s7.2 (Int.toNat s7.1) ({ v10 with Next:=v9 }:bV))))) else (some (.inr s7.2))
def uZ (N:Nat) (x0:GPermitPlan):Option (GPermitPlan) :=
  (jM N x0.bK).bind fun v1=>(iO N x0.dh).bind fun v2=>(jy N x0.ax).bind fun v3=>(bZ (nV N v1) N (0,v1)).bind fun UJ=>(bZ (nX N v3) N (0,v3)).bind fun Xe=>some ({ ({ x0 with dh:=v2 }:GPermitPlan) with bK:=UJ,ax:=Xe }:GPermitPlan)
def kV (N:Nat) (x0:(List Int)) (x1:Int) (s1:Int):Option (Int ⊕ (Unit ⊕ Int)) :=
  bif (aN .lss s1 (List.length x0:Int)) then ((idx x0 s1).bind fun v2=>bif (aN .eql x1 v2) then (some (.inr (Sum.inr s1))) else (some (.inl (IntKind.i64.wrap (s1+1))))) else (some (.inr (Sum.inl ())))
def qQ (N:Nat) (x0:(List Int)) (x1:Int):Option (Int) :=
  (bZ (kV N x0 x1) N 0).bind fun o5=>Sum.elim (fun l7=>some (-1)) (fun r8=>some r8) o5
def kW (N:Nat) (x0:(List Int)) (x1:Int):Option (Bool) :=
  (qQ N x0 x1).bind fun v1=>some (aN .geq v1 0)
def dQ (N:Nat) (g0:ah) (aH:(List (Str×af))) (aB:(List (Str×aj))) (aG:(List (Str×Str))) (x1:Str) (x2:(List Int)):Option Bool :=
  (kW N x2 ((iC (⟨0,[],0⟩:af) aH x1).state)).bind fun v1=>some v1
def dL (N:Nat) (g0:ah) (aH:(List (Str×af))) (aB:(List (Str×aj))) (aG:(List (Str×Str))) (x1:Str) (x2:Int):Option (List (Str×af)) :=
  some (pI aH x1 ({ (iC (⟨0,[],0⟩:af) aH x1) with state:=x2 }:af))
def qF (N:Nat) (x0:GPermitPlan) (v1:(bV×Bool)) (s11:((List Str)×Int)):Option (((List Str)×Int) ⊕ (List Str)) :=
  bif (aN .lss s11.2 (List.length x0.bK:Int)) then ((idx x0.bK s11.2).bind fun v12=>(bif v12.dW then (oU N x0 v12.Name v1.1.Name) else some 0).bind fun v13=>bif (v12.dW&&(aN .eql v13 1)) then ((app s11.1 [v12.Name]).bind fun v14=>some (.inl (v14,(IntKind.i64.wrap (s11.2+1))))) else (some (.inl (s11.1,(IntKind.i64.wrap (s11.2+1)))))) else (some (.inr s11.1))
def vV (N:Nat) (x0:GPermitPlan) (x1:aA):Option ((List Str)) :=
  (iE N x0 x1.Space).bind fun v1=>((((bif (aN .eql x1.Kind 0) then (some (aN .eql x1.Kind 0)) else (bif (aN .eql x1.Kind 1) then (some (aN .eql x1.Kind 1)) else (some (aN .eql x1.Kind 2)))):Option Bool).bind fun o4=>bif o4 then (bif v1.1.dW then ((app [] [v1.1.Name]).bind fun v6=>some v6) else (some [])) else (some [])):Option (List Str)).bind fun o9=>bif (aN .eql x1.Kind 0) then ((bZ (qF N x0 v1) N (o9,0)).bind fun Xq=>some Xq) else (some o9)
def pz (N:Nat) (g0:ah) (aH:(List (Str×af))) (aB:(List (Str×aj))) (aG:(List (Str×Str))) (x1:Str):Option (Bool×Bool) :=
  (iE N g0.plan x1).bind fun v1=>bif (!v1.1.dW) then (some (true,true)) else (some ((((((mr aB x1)&&(aN .leq (IntKind.i64.wrap (g0.now - ((iC (⟨0,0,0⟩:aj) aB x1).at_))) g0.plan.dS))&&(aN .geq ((iC (⟨0,0,0⟩:aj) aB x1).lK) 195))&&(aN .leq ((iC (⟨0,0,0⟩:aj) aB x1).lK) 235))&&(aN .leq ((iC (⟨0,0,0⟩:aj) aB x1).QC) 50)),((((((mr aB x1)&&(aN .leq (IntKind.i64.wrap (g0.now - ((iC (⟨0,0,0⟩:aj) aB x1).at_))) g0.plan.dS))&&(aN .geq ((iC (⟨0,0,0⟩:aj) aB x1).lK) 195))&&(aN .leq ((iC (⟨0,0,0⟩:aj) aB x1).lK) 235))&&(aN .leq ((iC (⟨0,0,0⟩:aj) aB x1).QC) 50))&&(aN .leq ((iC (⟨0,0,0⟩:aj) aB x1).QC) 10))))
def kE (N:Nat) (g0:ah) (aH:(List (Str×af))) (aB:(List (Str×aj))) (aG:(List (Str×Str))) (x0:Str) (c1:aA):Option Bool :=
  (pz N g0 aH aB aG x0).bind fun v1=>bif (aN .eql c1.Kind 0) then (some v1.2) else (some v1.1)
def dZ (N:Nat) (g0:ah) (aH:(List (Str×af))) (aB:(List (Str×aj))) (aG:(List (Str×Str))) (x0:(List Str)) (mW:aA) (s1:Int):Option (Int ⊕ (Unit ⊕ Int)) :=
  bif (aN .lss s1 (List.length x0:Int)) then ((idx x0 s1).bind fun v2=>(kE N g0 aH aB aG v2 mW).bind fun v3=>bif v3 then (some (.inr (Sum.inr s1))) else (some (.inl (IntKind.i64.wrap (s1+1))))) else (some (.inr (Sum.inl ())))
def fC (N:Nat) (g0:ah) (aH:(List (Str×af))) (aB:(List (Str×aj))) (aG:(List (Str×Str))) (x0:(List Str)) (mW:aA):Option Int :=
  (bZ (dZ N g0 aH aB aG x0 mW) N 0).bind fun o6=>Sum.elim (fun l8=>some (-1)) (fun r9=>some r9) o6
def dY (N:Nat) (g0:ah) (aH:(List (Str×af))) (aB:(List (Str×aj))) (aG:(List (Str×Str))) (mW:aA) (s2:((List Str)×Int×Int)):Option (((List Str)×Int×Int) ⊕ ((List Str)×Int)) :=
  bif (aN .lss s2.2.2 (List.length s2.1:Int)) then ((idx s2.1 s2.2.2).bind fun v3=>(kE N g0 aH aB aG v3 mW).bind fun v4=>bif (!v4) then ((idx s2.1 s2.2.1).bind fun v5=>some (.inl ((List.set s2.1 (Int.toNat s2.2.1) v3),(IntKind.i64.wrap (s2.2.1+1)),(IntKind.i64.wrap (s2.2.2+1))))) else (some (.inl (s2.1,s2.2.1,(IntKind.i64.wrap (s2.2.2+1)))))) else (some (.inr (s2.1,s2.2.1)))
def eP (N:Nat) (g0:ah) (aH:(List (Str×af))) (aB:(List (Str×aj))) (aG:(List (Str×Str))) (x0:(List Str)) (mW:aA):Option (List Str) :=
  (fC N g0 aH aB aG x0 mW).bind fun v1=>bif (aN .eql v1 (-1)) then (some x0) else ((bZ (dY N g0 aH aB aG mW) N (x0,v1,(IntKind.i64.wrap (v1+1)))).bind fun o8=>(QY o8.1 o8.2 (List.length o8.1:Int)).bind fun v10=>(bif Nat.beq ((Int.toNat o8.2)+(Int.toNat (List.length o8.1:Int) - Int.toNat o8.2)) (List.length o8.1) then some (List.take (Int.toNat o8.2) o8.1 ++ List.replicate (Int.toNat (List.length o8.1:Int) - Int.toNat o8.2) []) else none).bind fun v11=>(QY v11 0 o8.2).bind fun v12=>some v12)
def kX (N:Nat) (g0:ah) (aH:(List (Str×af))) (aB:(List (Str×aj))) (aG:(List (Str×Str))) (x1:aA):Option (List Str) :=
  (vV N g0.plan x1).bind fun v1=>(eP N g0 aH aB aG v1 x1).bind fun v2=>some v2
def jq (N:Nat) (g0:ah) (aH:(List (Str×af))) (aB:(List (Str×aj))) (aG:(List (Str×Str))) (x0:Str):Option Bool :=
  (dQ N g0 aH aB aG x0 [2]).bind fun v1=>some v1
def dX (N:Nat) (g0:ah) (aH:(List (Str×af))) (aB:(List (Str×aj))) (aG:(List (Str×Str))) (x0:(List Str)) (s1:Int):Option (Int ⊕ (Unit ⊕ Int)) :=
  bif (aN .lss s1 (List.length x0:Int)) then ((idx x0 s1).bind fun v2=>(jq N g0 aH aB aG v2).bind fun v3=>bif v3 then (some (.inr (Sum.inr s1))) else (some (.inl (IntKind.i64.wrap (s1+1))))) else (some (.inr (Sum.inl ())))
def eH (N:Nat) (g0:ah) (aH:(List (Str×af))) (aB:(List (Str×aj))) (aG:(List (Str×Str))) (x0:(List Str)):Option Int :=
  (bZ (dX N g0 aH aB aG x0) N 0).bind fun o6=>Sum.elim (fun l8=>some (-1)) (fun r9=>some r9) o6
def dB (N:Nat) (g0:ah) (aH:(List (Str×af))) (aB:(List (Str×aj))) (aG:(List (Str×Str))) (s2:((List Str)×Int×Int)):Option (((List Str)×Int×Int) ⊕ ((List Str)×Int)) :=
  bif (aN .lss s2.2.2 (List.length s2.1:Int)) then ((idx s2.1 s2.2.2).bind fun v3=>(jq N g0 aH aB aG v3).bind fun v4=>bif (!v4) then ((idx s2.1 s2.2.1).bind fun v5=>some (.inl ((List.set s2.1 (Int.toNat s2.2.1) v3),(IntKind.i64.wrap (s2.2.1+1)),(IntKind.i64.wrap (s2.2.2+1))))) else (some (.inl (s2.1,s2.2.1,(IntKind.i64.wrap (s2.2.2+1)))))) else (some (.inr (s2.1,s2.2.1)))
def gy (N:Nat) (g0:ah) (aH:(List (Str×af))) (aB:(List (Str×aj))) (aG:(List (Str×Str))) (x0:(List Str)):Option (List Str) :=
  (eH N g0 aH aB aG x0).bind fun v1=>bif (aN .eql v1 (-1)) then (some x0) else ((bZ (dB N g0 aH aB aG) N (x0,v1,(IntKind.i64.wrap (v1+1)))).bind fun o8=>(QY o8.1 o8.2 (List.length o8.1:Int)).bind fun v10=>(bif Nat.beq ((Int.toNat o8.2)+(Int.toNat (List.length o8.1:Int) - Int.toNat o8.2)) (List.length o8.1) then some (List.take (Int.toNat o8.2) o8.1 ++ List.replicate (Int.toNat (List.length o8.1:Int) - Int.toNat o8.2) []) else none).bind fun v11=>(QY v11 0 o8.2).bind fun v12=>some v12)
def jL (N:Nat) (g0:ah) (aH:(List (Str×af))) (aB:(List (Str×aj))) (aG:(List (Str×Str))) (x1:aA):Option (List Str) :=
  (fA N x1.Locks).bind fun v1=>(gy N g0 aH aB aG v1).bind fun v2=>some v2
def jD (N:Nat) (g0:ah) (aB:(List (Str×aj))) (aG:(List (Str×Str))) (s10:(Bool×Int×(List (Str×af)))):Option ((Bool×Int×(List (Str×af))) ⊕ (Bool×(List (Str×af)))) :=
  bif (aN .lss s10.2.1 (List.length g0.plan.ax:Int)) then ((idx g0.plan.ax s10.2.1).bind fun v11=>(dQ N g0 s10.2.2 aB aG v11.Name [2]).bind fun v12=>(bif v12 then (kX N g0 s10.2.2 aB aG v11) else some []).bind fun v13=>(bif (v12&&(!(aN .gtr (List.length v13:Int) 0))) then (jL N g0 s10.2.2 aB aG v11) else some []).bind fun v14=>bif (v12&&((aN .gtr (List.length v13:Int) 0)||(aN .gtr (List.length v14:Int) 0))) then ((dL N g0 s10.2.2 aB aG v11.Name 3).bind fun v15=>some (.inl (true,(IntKind.i64.wrap (s10.2.1+1)),v15))) else (some (.inl (s10.1,(IntKind.i64.wrap (s10.2.1+1)),s10.2.2)))) else (some (.inr (s10.1,s10.2.2)))
def kD (N:Nat) (g0:ah) (aB:(List (Str×aj))) (aG:(List (Str×Str))) (s9:(Bool×(List (Str×af)))):Option ((Bool×(List (Str×af))) ⊕ (List (Str×af))) :=
  bif s9.1 then ((bZ (jD N g0 aB aG) N (false,0,s9.2)).bind fun Xo=>some (.inl (Xo.1,Xo.2))) else (some (.inr s9.2))
def kC (N:Nat) (g0:ah) (aB:(List (Str×aj))) (aG:(List (Str×Str))) (s1:(Int×(List (Str×af)))):Option ((Int×(List (Str×af))) ⊕ (List (Str×af))) :=
  bif (aN .lss s1.1 (List.length g0.plan.ax:Int)) then ((idx g0.plan.ax s1.1).bind fun v2=>(dQ N g0 s1.2 aB aG v2.Name [0,1,2,3]).bind fun v3=>bif (v3&&(aN .leq ((iC (⟨0,[],0⟩:af) s1.2 v2.Name).Be) g0.now)) then ((dL N g0 s1.2 aB aG v2.Name 6).bind fun v4=>some (.inl ((IntKind.i64.wrap (s1.1+1)),v4))) else (some (.inl ((IntKind.i64.wrap (s1.1+1)),s1.2)))) else (some (.inr s1.2))
def jH (N:Nat) (g0:ah) (aH:(List (Str×af))) (aB:(List (Str×aj))) (aG:(List (Str×Str))):Option (List (Str×af)) :=
  (bZ (kC N g0 aB aG) N (0,aH)).bind fun o7=>(bZ (kD N g0 aB aG) N (true,o7)).bind fun o22=>some o22
def ny (N:Nat) (x0:GPermitPlan) (s7:(Int×(List (Str×af)))):Option ((Int×(List (Str×af))) ⊕ (List (Str×af))) :=
  bif (aN .lss s7.1 (List.length x0.ax:Int)) then ((idx x0.ax s7.1).bind fun v8=>some (.inl ((IntKind.i64.wrap (s7.1+1)),(pI s7.2 v8.Name (⟨0,[],v8.To⟩:af))))) else (some (.inr s7.2))
def rC (N:Nat) (x0:GPermitPlan):Option ((Option (ah×(List (Str×af))×(List (Str×aj))×(List (Str×Str))))×(Int)) :=
  (nU N x0).bind fun v1=>bif (aN .neq v1 0) then (some (none,v1)) else ((uZ N x0).bind fun v2=>(bZ (ny N x0) N (0,([]:(List (Str×af))))).bind fun RJ=>(jH N (⟨v2,0,[]⟩:ah) RJ ([]:(List (Str×aj))) ([]:(List (Str×Str)))).bind fun v12=>some ((some ((⟨v2,0,[]⟩:ah),v12,([]:(List (Str×aj))),([]:(List (Str×Str))))),0))
def uD (N:Nat):Option ((List aY)) :=
  some [(⟨([116,105,99,107]:Str),([]:Str),([]:(List Int)),(some 95)⟩:aY),(⟨([97,112,112,114,111,118,101]:Str),([110,112]:Str),[0],(some 96)⟩:aY),(⟨([111,112,101,110]:Str),([110,112]:Str),[1],(some 97)⟩:aY),(⟨([115,117,115,112,101,110,100]:Str),([110]:Str),[2],(some 98)⟩:aY),(⟨([114,101,115,117,109,101]:Str),([110,112]:Str),[3],(some 97)⟩:aY),(⟨([99,108,111,115,101]:Str),([110]:Str),[2,3],(some 99)⟩:aY),(⟨([99,97,110,99,101,108]:Str),([110]:Str),[0,1],(some 100)⟩:aY),(⟨([103,97,115]:Str),([115,111,103]:Str),([]:(List Int)),(some 101)⟩:aY),(⟨([101,110,116,101,114]:Str),([112,115]:Str),([]:(List Int)),(some 102)⟩:aY),(⟨([108,101,97,118,101]:Str),([112]:Str),([]:(List Int)),(some 103)⟩:aY),(⟨([97,108,97,114,109]:Str),([115]:Str),([]:(List Int)),(some 104)⟩:aY),(⟨([101,120,116,101,110,100]:Str),([110,112,116]:Str),[1,2,3],(some 105)⟩:aY)]
def sZ (N:Nat) (x0:Int):Option (Bool) :=
  some ((aN .geq x0 0)&&(aN .leq x0 1000000))
def uP (N:Nat) (x0:(Option (ah×Value×Value×Value))) (x1:GEvent):Option ((List Str)×Int) :=
  (uD N).bind fun v1=>bif (Option.isNone x0) then (some ([],1)) else ((bif (!((aN .lss x1.Op 0)||(aN .geq x1.Op (List.length v1:Int)))) then (sZ N x1.At) else some false).bind fun v2=>bif (((aN .lss x1.Op 0)||(aN .geq x1.Op (List.length v1:Int)))||(!v2)) then (some ([],2)) else (none))
def rU (N:Nat) (x0:(List Str)) (x1:(List Str)) (s1:Int):Option (Int ⊕ (Unit ⊕ Bool)) :=
  bif (aN .lss s1 (List.length x0:Int)) then ((idx x0 s1).bind fun v2=>(idx x1 s1).bind fun v3=>bif (Ae .neq v2 v3) then (some (.inr (Sum.inr false))) else (some (.inl (IntKind.i64.wrap (s1+1))))) else (some (.inr (Sum.inl ())))
def uQ (N:Nat) (x0:(List Str)) (x1:(List Str)):Option (Bool) :=
  bif (aN .neq (List.length x0:Int) (List.length x1:Int)) then (some false) else ((bZ (rU N x0 x1) N 0).bind fun o6=>Sum.elim (fun l8=>some true) (fun r9=>some r9) o6)
def uS (N:Nat) (g0:ah) (aH:(List (Str×af))) (aB:(List (Str×aj))) (aG:(List (Str×Str))) (x1:GEvent):Option ai :=
  some (⟨[],0⟩:ai)
def jg (N:Nat) (x0:Int) (x1:(List Str)):Option (ai) :=
  some (⟨x1,x0⟩:ai)
def mY (N:Nat) (g0:ah) (aH:(List (Str×af))) (aB:(List (Str×aj))) (aG:(List (Str×Str))) (x1:GEvent):Option ((List (Str×af))×ai) :=
  (nM N x1.Person).bind fun v1=>bif (!v1) then ((jg N 4 ([]:(List Str))).bind fun v2=>some (aH,v2)) else (some ((pI aH x1.Name ({ ({ (iC (⟨0,[],0⟩:af) aH x1.Name) with state:=1 }:af) with Gt:=x1.Person }:af)),(⟨[],0⟩:ai)))
def pO (N:Nat) (g0:ah) (aH:(List (Str×af))) (aB:(List (Str×aj))) (aG:(List (Str×Str))) (x1:aA):Option aA :=
  some x1
def qK (N:Nat) (x0:bF) (c0:Int) (c1:aA) (c2:aA):Option (Bool) :=
  some ((aN .leq c0 x0.Reach)&&(((aN .eql x0.A c1.Kind)&&(aN .eql x0.B c2.Kind))||((aN .eql x0.A c2.Kind)&&(aN .eql x0.B c1.Kind))))
def fU (N:Nat) (x0:(List bF)) (x1:(bF→Option Bool)) (s1:Int):Option (Int ⊕ (Unit ⊕ Int)) :=
  bif (aN .lss s1 (List.length x0:Int)) then ((idx x0 s1).bind fun v2=>(x1 v2).bind fun v3=>bif v3 then (some (.inr (Sum.inr s1))) else (some (.inl (IntKind.i64.wrap (s1+1))))) else (some (.inr (Sum.inl ())))
def gU (N:Nat) (x0:(List bF)) (x1:(bF→Option Bool)):Option (Int) :=
  (bZ (fU N x0 x1) N 0).bind fun o6=>Sum.elim (fun l8=>some (-1)) (fun r9=>some r9) o6
def iR (N:Nat) (x0:(List bF)) (x1:(bF→Option Bool)):Option (Bool) :=
  (gU N x0 x1).bind fun v1=>some (aN .geq v1 0)
def qE (N:Nat) (x0:GPermitPlan) (x1:aA) (x2:aA):Option (Bool) :=
  bif (Ae .eql x1.Name x2.Name) then (some false) else ((oU N x0 x1.Space x2.Space).bind fun v1=>(iR N x0.dh (fun y0=>qK N y0 v1 x1 x2)).bind fun v2=>some v2)
def kT (N:Nat) (g0:ah) (aH:(List (Str×af))) (aB:(List (Str×aj))) (aG:(List (Str×Str))) (x0:aA) (c1:aA):Option Bool :=
  (qE N g0.plan x0 c1).bind fun v1=>some v1
def fK (N:Nat) (g0:ah) (aH:(List (Str×af))) (aB:(List (Str×aj))) (aG:(List (Str×Str))) (mW:aA) (s1:((List Str)×Int)):Option (((List Str)×Int) ⊕ (List Str)) :=
  bif (aN .lss s1.2 (List.length g0.plan.ax:Int)) then ((idx g0.plan.ax s1.2).bind fun v2=>(dQ N g0 aH aB aG v2.Name [2]).bind fun v3=>(bif v3 then (kT N g0 aH aB aG v2 mW) else some false).bind fun v4=>bif (v3&&v4) then ((app s1.1 [v2.Name]).bind fun v5=>some (.inl (v5,(IntKind.i64.wrap (s1.2+1))))) else (some (.inl (s1.1,(IntKind.i64.wrap (s1.2+1)))))) else (some (.inr s1.1))
def iT (N:Nat) (g0:ah) (aH:(List (Str×af))) (aB:(List (Str×aj))) (aG:(List (Str×Str))) (mW:aA):Option (List Str) :=
  (bZ (fK N g0 aH aB aG mW) N ([],0)).bind fun o8=>some o8
def lT (N:Nat) (g0:ah) (aH:(List (Str×af))) (aB:(List (Str×aj))) (x0:Str) (c1:aA):Option Bool :=
  (oU N g0.plan x0 c1.Space).bind fun v1=>some (aN .leq v1 1)
def lQ (N:Nat) (x0:(List Str)):Option ((List Str)):=MG x0
def gB (N:Nat) (g0:ah) (aH:(List (Str×af))) (aB:(List (Str×aj))) (mW:aA) (s2:(List Str)) (p3:(Str×Str)):Option (List Str) :=
  (lT N g0 aH aB p3.2 mW).bind fun v5=>bif v5 then ((app s2 [p3.1]).bind fun v6=>some v6) else (some s2)
def iD (N:Nat) (g0:ah) (aH:(List (Str×af))) (aB:(List (Str×aj))) (aG:(List (Str×Str))) (mW:aA):Option (List Str) :=
  FY aG fun q4p=>(H6 (gB N g0 aH aB mW) q4p []).bind fun s2=>(lQ N s2).bind fun v8=>some v8
def fD {S:Type} (N:Nat) (Y:S→bT→Option (S×Bool)) (o8:(List bT)) (s10:(Int×S)):Option ((Int×S) ⊕ (S ⊕ S)) :=
  bif (aN .lss s10.1 (List.length o8:Int)) then ((idx o8 s10.1).bind fun v11=>(bif (aN .gtr (List.length v11.Names:Int) 0) then (Y s10.2 v11) else some (s10.2,false)).bind fun v12=>bif ((aN .gtr (List.length v11.Names:Int) 0)&&(!v12.2)) then (some (.inr (Sum.inr v12.1))) else (some (.inl ((IntKind.i64.wrap (s10.1+1)),v12.1)))) else (some (.inr (Sum.inl s10.2)))
def jJ {S:Type} (N:Nat) (Y:S→bT→Option (S×Bool)) (y0:S) (g0:ah) (aH:(List (Str×af))) (aB:(List (Str×aj))) (aG:(List (Str×Str))) (c1:aA):Option S :=
  (bif (aN .lss g0.now c1.From) then (Y y0 (⟨2,[]⟩:bT)) else some (y0,false)).bind fun v1=>bif ((aN .lss g0.now c1.From)&&(!v1.2)) then (some v1.1) else ((jL N g0 aH aB aG c1).bind fun v2=>(iT N g0 aH aB aG c1).bind fun v3=>(kX N g0 aH aB aG c1).bind fun v4=>((bif (aN .eql c1.Kind 3) then ((iD N g0 aH aB aG c1).bind fun v5=>(app [(⟨18,v2⟩:bT),(⟨20,v3⟩:bT),(⟨21,v4⟩:bT)] [(⟨17,v5⟩:bT)]).bind fun v6=>some v6) else (some [(⟨18,v2⟩:bT),(⟨20,v3⟩:bT),(⟨21,v4⟩:bT)])):Option (List bT)).bind fun o8=>(bZ (fD N Y o8) N (0,v1.1)).bind fun TA=>Sum.elim (fun l17=>some l17) (fun Xu=>some Xu) TA)
def iM (N:Nat) (s7:ai) (i8:bT):Option (ai×Option Nat) :=
  (jg N i8.Err i8.Names).bind fun v12=>some (v12,some 0)
def lW (N:Nat) (g0:ah) (aH:(List (Str×af))) (aB:(List (Str×aj))) (aG:(List (Str×Str))) (x1:GEvent):Option ((List (Str×af))×ai) :=
  (nM N x1.Person).bind fun v1=>bif (!v1) then ((jg N 4 ([]:(List Str))).bind fun v2=>some (aH,v2)) else (bif (Ae .eql x1.Person ((iC (⟨0,[],0⟩:af) aH x1.Name).Gt)) then ((jg N 26 ([]:(List Str))).bind fun v3=>some (aH,v3)) else ((lU N g0.plan x1.Name).bind fun v4=>(pO N g0 aH aB aG v4.1).bind fun v5=>(jJ N (yl (iM N) 1) ((⟨[],0⟩:ai),none) g0 aH aB aG v5).bind fun RQ=>Hy RQ (fun OA=>(dL N g0 aH aB aG x1.Name 2).bind fun v14=>some (v14,(⟨[],0⟩:ai))) (fun OA=>some (aH,OA))))
def rP (N:Nat) (g0:ah) (aH:(List (Str×af))) (aB:(List (Str×aj))) (aG:(List (Str×Str))) (x1:GEvent):Option ((List (Str×af))×ai) :=
  (dL N g0 aH aB aG x1.Name 3).bind fun v1=>some (v1,(⟨[],0⟩:ai))
def jc (N:Nat) (x0:aA) (c0:aA):Option (Bool) :=
  (fO N x0.Locks c0.Name).bind fun v1=>some v1
def kU (N:Nat) (g0:ah) (aH:(List (Str×af))) (aB:(List (Str×aj))) (aG:(List (Str×Str))) (x1:(aA→Option Bool)) (s1:((List Str)×Int)):Option (((List Str)×Int) ⊕ (List Str)) :=
  bif (aN .lss s1.2 (List.length g0.plan.ax:Int)) then ((idx g0.plan.ax s1.2).bind fun v2=>(dQ N g0 aH aB aG v2.Name [2]).bind fun v3=>(bif v3 then (x1 v2) else some false).bind fun v4=>bif (v3&&v4) then ((app s1.1 [v2.Name]).bind fun v5=>some (.inl (v5,(IntKind.i64.wrap (s1.2+1))))) else (some (.inl (s1.1,(IntKind.i64.wrap (s1.2+1)))))) else (some (.inr s1.1))
def gY (N:Nat) (g0:ah) (aH:(List (Str×af))) (aB:(List (Str×aj))) (aG:(List (Str×Str))) (x1:(aA→Option Bool)):Option (List Str) :=
  (bZ (kU N g0 aH aB aG x1) N ([],0)).bind fun o8=>some o8
def jd (N:Nat) (x0:aA) (c0:aA):Option (Bool) :=
  some (((aN .eql x0.Kind 1)&&(Ae .eql x0.Space c0.Space))&&(Ae .neq x0.Name c0.Name))
def je (N:Nat) (x0:Str) (c0:aA):Option (Bool) :=
  some (Ae .eql x0 c0.Space)
def lq (N:Nat) (x1:(Str→Option Bool)) (s2:(List Str)) (p3:(Str×Str)):Option (List Str) :=
  (x1 p3.2).bind fun v5=>bif v5 then ((app s2 [p3.1]).bind fun v6=>some v6) else (some s2)
def jU (N:Nat) (g0:ah) (aH:(List (Str×af))) (aB:(List (Str×aj))) (aG:(List (Str×Str))) (x1:(Str→Option Bool)):Option (List Str) :=
  FY aG fun q4p=>(H6 (lq N x1) q4p []).bind fun s2=>(lQ N s2).bind fun v8=>some v8
def lD (N:Nat) (g0:ah) (aH:(List (Str×af))) (aB:(List (Str×aj))) (aG:(List (Str×Str))) (x1:GEvent):Option ((List (Str×af))×ai) :=
  (lU N g0.plan x1.Name).bind fun v1=>(iE N g0.plan v1.1.Space).bind fun v2=>((bif (aN .eql v1.1.Kind 5) then ((gY N g0 aH aB aG (fun y0=>jc N y0 v1.1)).bind fun v3=>bif (aN .gtr (List.length v3:Int) 0) then ((jg N 20 v3).bind fun v4=>some (Sum.inr v4)) else (some (Sum.inl (⟨[],0⟩:ai)))) else ((bif (aN .eql v1.1.Kind 1) then (dQ N g0 aH aB aG v1.1.Name [2]) else some false).bind fun v6=>bif (((aN .eql v1.1.Kind 1)&&v6)&&v2.1.dW) then ((gY N g0 aH aB aG (fun y0=>jd N y0 v1.1)).bind fun v7=>(jU N g0 aH aB aG (fun y0=>je N y0 v1.1)).bind fun v8=>bif ((aN .eql (List.length v7:Int) 0)&&(aN .gtr (List.length v8:Int) 0)) then ((jg N 21 v8).bind fun v9=>some (Sum.inr v9)) else (some (Sum.inl (⟨[],0⟩:ai)))) else (some (Sum.inl (⟨[],0⟩:ai))))):Option (ai ⊕ ai)).bind fun RQ=>Sum.elim (fun l15=>(dL N g0 aH aB aG x1.Name 4).bind fun v17=>some (v17,(⟨[],0⟩:ai))) (fun r16=>some (aH,r16)) RQ
def sW (N:Nat) (g0:ah) (aH:(List (Str×af))) (aB:(List (Str×aj))) (aG:(List (Str×Str))) (x1:GEvent):Option ((List (Str×af))×ai) :=
  (dL N g0 aH aB aG x1.Name 5).bind fun v1=>some (v1,(⟨[],0⟩:ai))
def pU (N:Nat) (g0:ah) (aH:(List (Str×af))) (aB:(List (Str×aj))) (aG:(List (Str×Str))) (x1:GEvent):Option ((List (Str×aj))×ai) :=
  (iE N g0.plan x1.Space).bind fun v1=>bif (!v1.2) then ((jg N 6 ([]:(List Str))).bind fun v2=>some (aB,v2)) else (bif ((((aN .lss x1.vS 0)||(aN .gtr x1.vS 1000))||(aN .lss x1.OH 0))||(aN .gtr x1.OH 1000)) then ((jg N 2 ([]:(List Str))).bind fun v3=>some (aB,v3)) else (some ((pI aB x1.Space (⟨g0.now,x1.vS,x1.OH⟩:aj)),(⟨[],0⟩:ai))))
def ku (N:Nat) (x0:aA) (c0:Str):Option (Bool) :=
  some ((aN .eql x0.Kind 1)&&(Ae .eql x0.Space c0))
def nJ (N:Nat) (g0:ah) (aH:(List (Str×af))) (aB:(List (Str×aj))) (aG:(List (Str×Str))) (x1:Str):Option Bool :=
  (gY N g0 aH aB aG (fun y0=>ku N y0 x1)).bind fun v1=>some (aN .gtr (List.length v1:Int) 0)
def mV (N:Nat) (g0:ah) (aH:(List (Str×af))) (aB:(List (Str×aj))) (aG:(List (Str×Str))) (x0:aA) (c1:bV):Option Bool :=
  (bif (aN .eql x0.Kind 3) then (oU N g0.plan x0.Space c1.Name) else some 0).bind fun v1=>some ((aN .eql x0.Kind 3)&&(aN .leq v1 1))
def gJ (N:Nat) (g0:ah) (aH:(List (Str×af))) (aB:(List (Str×aj))) (aG:(List (Str×Str))) (mW:bV) (s1:((List Str)×Int)):Option (((List Str)×Int) ⊕ (List Str)) :=
  bif (aN .lss s1.2 (List.length g0.plan.ax:Int)) then ((idx g0.plan.ax s1.2).bind fun v2=>(dQ N g0 aH aB aG v2.Name [2]).bind fun v3=>(bif v3 then (mV N g0 aH aB aG v2 mW) else some false).bind fun v4=>bif (v3&&v4) then ((app s1.1 [v2.Name]).bind fun v5=>some (.inl (v5,(IntKind.i64.wrap (s1.2+1))))) else (some (.inl (s1.1,(IntKind.i64.wrap (s1.2+1)))))) else (some (.inr s1.1))
def jl (N:Nat) (g0:ah) (aH:(List (Str×af))) (aB:(List (Str×aj))) (aG:(List (Str×Str))) (mW:bV):Option (List Str) :=
  (bZ (gJ N g0 aH aB aG mW) N ([],0)).bind fun o8=>some o8
def oq (N:Nat) (g0:ah) (aH:(List (Str×af))) (aB:(List (Str×aj))) (aG:(List (Str×Str))) (x1:GEvent):Option ((List (Str×Str))×ai) :=
  (nM N x1.Person).bind fun v1=>bif (!v1) then ((jg N 4 ([]:(List Str))).bind fun v2=>some (aG,v2)) else ((iE N g0.plan x1.Space).bind fun v3=>bif (!v3.2) then ((jg N 6 ([]:(List Str))).bind fun v4=>some (aG,v4)) else (bif (mr aG x1.Person) then ((jg N 18 ([]:(List Str))).bind fun v5=>some (aG,v5)) else ((bif v3.1.dW then (nJ N g0 aH aB aG v3.1.Name) else some false).bind fun v6=>bif (v3.1.dW&&(!v6)) then ((jg N 21 ([]:(List Str))).bind fun v7=>some (aG,v7)) else ((jl N g0 aH aB aG v3.1).bind fun v8=>bif (aN .gtr (List.length v8:Int) 0) then ((jg N 17 v8).bind fun v9=>some (aG,v9)) else (some ((pI aG x1.Person v3.1.Name),(⟨[],0⟩:ai)))))))
def ou (N:Nat) (g0:ah) (aH:(List (Str×af))) (aB:(List (Str×aj))) (aG:(List (Str×Str))) (x1:GEvent):Option ((List (Str×Str))×ai) :=
  (nM N x1.Person).bind fun v1=>bif (!v1) then ((jg N 4 ([]:(List Str))).bind fun v2=>some (aG,v2)) else (bif (!(mr aG x1.Person)) then ((jg N 6 ([]:(List Str))).bind fun v3=>some (aG,v3)) else (some ((DZ aG x1.Person),(⟨[],0⟩:ai))))
def mX (N:Nat) (g0:ah) (aH:(List (Str×af))) (aB:(List (Str×aj))) (aG:(List (Str×Str))) (x0:aA) (c1:GEvent):Option Bool :=
  (bif (aN .neq x0.Kind 5) then (oU N g0.plan x0.Space c1.Space) else some 0).bind fun v1=>some ((aN .neq x0.Kind 5)&&(aN .leq v1 1))
def gK (N:Nat) (g0:ah) (aH:(List (Str×af))) (aB:(List (Str×aj))) (aG:(List (Str×Str))) (mW:GEvent) (s1:((List Str)×Int)):Option (((List Str)×Int) ⊕ (List Str)) :=
  bif (aN .lss s1.2 (List.length g0.plan.ax:Int)) then ((idx g0.plan.ax s1.2).bind fun v2=>(dQ N g0 aH aB aG v2.Name [2]).bind fun v3=>(bif v3 then (mX N g0 aH aB aG v2 mW) else some false).bind fun v4=>bif (v3&&v4) then ((app s1.1 [v2.Name]).bind fun v5=>some (.inl (v5,(IntKind.i64.wrap (s1.2+1))))) else (some (.inl (s1.1,(IntKind.i64.wrap (s1.2+1)))))) else (some (.inr s1.1))
def jm (N:Nat) (g0:ah) (aH:(List (Str×af))) (aB:(List (Str×aj))) (aG:(List (Str×Str))) (mW:GEvent):Option (List Str) :=
  (bZ (gK N g0 aH aB aG mW) N ([],0)).bind fun o8=>some o8
def jK (N:Nat) (g0:ah) (aB:(List (Str×aj))) (aG:(List (Str×Str))) (v3:(List Str)) (s4:(Int×(List (Str×af)))):Option ((Int×(List (Str×af))) ⊕ (List (Str×af))) :=
  bif (aN .lss s4.1 (List.length v3:Int)) then ((idx v3 s4.1).bind fun v5=>(dL N g0 s4.2 aB aG v5 3).bind fun v6=>some (.inl ((IntKind.i64.wrap (s4.1+1)),v6))) else (some (.inr s4.2))
def oz (N:Nat) (g0:ah) (aH:(List (Str×af))) (aB:(List (Str×aj))) (aG:(List (Str×Str))) (x1:GEvent):Option ((List (Str×af))×ai) :=
  (iE N g0.plan x1.Space).bind fun v1=>bif (!v1.2) then ((jg N 6 ([]:(List Str))).bind fun v2=>some (aH,v2)) else ((jm N g0 aH aB aG x1).bind fun v3=>(bZ (jK N g0 aB aG v3) N (0,aH)).bind fun o8=>some (o8,(⟨[],0⟩:ai)))
def nK (N:Nat) (g0:ah) (aH:(List (Str×af))) (aB:(List (Str×aj))) (aG:(List (Str×Str))) (x1:GEvent):Option ((List (Str×af))×ai) :=
  (nM N x1.Person).bind fun v1=>bif (!v1) then ((jg N 4 ([]:(List Str))).bind fun v2=>some (aH,v2)) else (bif ((aN .leq x1.To ((iC (⟨0,[],0⟩:af) aH x1.Name).Be))||(aN .gtr x1.To 1000000)) then ((jg N 2 ([]:(List Str))).bind fun v3=>some (aH,v3)) else (some ((pI aH x1.Name ({ (iC (⟨0,[],0⟩:af) aH x1.Name) with Be:=x1.To }:af)),(⟨[],0⟩:ai))))
def CJ (N:Nat) (g0:ah) (aH:(List (Str×af))) (aB:(List (Str×aj))) (aG:(List (Str×Str))) (n:(Option Nat)) (x1:GEvent):Option ((List (Str×af))×(List (Str×aj))×(List (Str×Str))×ai) :=
  bif decide (n=some 95) then ((uS N g0 aH aB aG x1).bind fun y=>some (aH,aB,aG,y)) else (bif decide (n=some 96) then ((mY N g0 aH aB aG x1).bind fun y=>some (y.1,aB,aG,y.2)) else (bif decide (n=some 97) then ((lW N g0 aH aB aG x1).bind fun y=>some (y.1,aB,aG,y.2)) else (bif decide (n=some 98) then ((rP N g0 aH aB aG x1).bind fun y=>some (y.1,aB,aG,y.2)) else (bif decide (n=some 99) then ((lD N g0 aH aB aG x1).bind fun y=>some (y.1,aB,aG,y.2)) else (bif decide (n=some 100) then ((sW N g0 aH aB aG x1).bind fun y=>some (y.1,aB,aG,y.2)) else (bif decide (n=some 101) then ((pU N g0 aH aB aG x1).bind fun y=>some (aH,y.1,aG,y.2)) else (bif decide (n=some 102) then ((oq N g0 aH aB aG x1).bind fun y=>some (aH,aB,y.1,y.2)) else (bif decide (n=some 103) then ((ou N g0 aH aB aG x1).bind fun y=>some (aH,aB,y.1,y.2)) else (bif decide (n=some 104) then ((oz N g0 aH aB aG x1).bind fun y=>some (y.1,aB,aG,y.2)) else (bif decide (n=some 105) then ((nK N g0 aH aB aG x1).bind fun y=>some (y.1,aB,aG,y.2)) else (none)))))))))))
def kR (N:Nat) (g0:ah) (aH:(List (Str×af))) (aB:(List (Str×aj))) (aG:(List (Str×Str))) (x1:GEvent):Option (ah×(List (Str×af))×(List (Str×aj))×(List (Str×Str))×(List Str)×Int) :=
  (uD N).bind fun v1=>(bif (!((aN .lss x1.Op 0)||(aN .geq x1.Op (List.length v1:Int)))) then (sZ N x1.At) else some false).bind fun v2=>bif (((aN .lss x1.Op 0)||(aN .geq x1.Op (List.length v1:Int)))||(!v2)) then (some (g0,aH,aB,aG,[],2)) else (bif (aN .lss x1.At g0.now) then (some (g0,aH,aB,aG,[],10)) else ((jH N ({ g0 with now:=x1.At }:ah) aH aB aG).bind fun v3=>(idx v1 x1.Op).bind fun v4=>((bif (!(List.isEmpty v4.states)) then ((lU N (({ g0 with now:=x1.At }:ah).plan) x1.Name).bind fun v5=>bif (!v5.2) then (some (Sum.inr ([],6))) else ((dQ N ({ g0 with now:=x1.At }:ah) v3 aB aG x1.Name v4.states).bind fun v6=>bif (!v6) then (some (Sum.inr ([],18))) else (some (Sum.inl ())))) else (some (Sum.inl ()))):Option (Unit ⊕ ((List Str)×Int))).bind fun RJ=>Sum.elim (fun l12=>(CJ N ({ g0 with now:=x1.At }:ah) v3 aB aG v4.LH x1).bind fun v14=>bif (aN .neq v14.2.2.2.e 0) then (some (({ g0 with now:=x1.At }:ah),v14.1,v14.2.1,v14.2.2.1,v14.2.2.2.names,v14.2.2.2.e)) else ((jH N ({ g0 with now:=x1.At }:ah) v14.1 v14.2.1 v14.2.2.1).bind fun v15=>(app (({ g0 with now:=x1.At }:ah).done) [x1]).bind fun v16=>some (({ ({ g0 with now:=x1.At }:ah) with done:=v16 }:ah),v15,v14.2.1,v14.2.2.1,[],0))) (fun r13=>some (({ g0 with now:=x1.At }:ah),v3,aB,aG,r13.1,r13.2)) RJ))
def wK (N:Nat):Option (Bool) :=
  (y7 N).bind fun v1=>(Bh N v1 ([100,101,99,107]:Str) ([104,111,108,100]:Str)).bind fun v2=>(rC N v1).bind fun v3=>JL v3 (fun Yf=>(uP N (none:(Option (ah×Value×Value×Value))) (⟨0,1,([119,101,108,100]:Str),[],([97,110,110]:Str),0,0,0⟩:GEvent)).bind fun v4=>(uP N (none:(Option (ah×Value×Value×Value))) (⟨0,2,([119,101,108,100]:Str),[],([98,111,98]:Str),0,0,0⟩:GEvent)).bind fun v5=>(bif (((((aN .eql v2.2 0)&&(aN .eql v2.1 2))&&(aN .eql Yf 0))&&(aN .eql v4.2 0))&&(aN .eql v5.2 21)) then (uQ N v5.1 [([116,97,110,107]:Str)]) else some false).bind fun v6=>some ((((((aN .eql v2.2 0)&&(aN .eql v2.1 2))&&(aN .eql Yf 0))&&(aN .eql v4.2 0))&&(aN .eql v5.2 21))&&v6)) (fun DW Yf=>(kR N DW.1 DW.2.1 DW.2.2.1 DW.2.2.2 (⟨0,1,([119,101,108,100]:Str),[],([97,110,110]:Str),0,0,0⟩:GEvent)).bind fun v12=>(kR N v12.1 v12.2.1 v12.2.2.1 v12.2.2.2.1 (⟨0,2,([119,101,108,100]:Str),[],([98,111,98]:Str),0,0,0⟩:GEvent)).bind fun v13=>(bif (((((aN .eql v2.2 0)&&(aN .eql v2.1 2))&&(aN .eql Yf 0))&&(aN .eql v12.2.2.2.2.2 0))&&(aN .eql v13.2.2.2.2.2 21)) then (uQ N v13.2.2.2.2.1 [([116,97,110,107]:Str)]) else some false).bind fun v14=>some ((((((aN .eql v2.2 0)&&(aN .eql v2.1 2))&&(aN .eql Yf 0))&&(aN .eql v12.2.2.2.2.2 0))&&(aN .eql v13.2.2.2.2.2 21))&&v14))
def uh (N:Nat) (x0:GPermitPlan):Option (Int) :=
  (nU N x0).bind fun v1=>bif (aN .neq v1 0) then (some v1) else (bif (aN .gtr (List.length x0.ax:Int) 10) then (some 8) else (some 0))
def qJ (N:Nat) (x0:aA) (c0:Str):Option (Bool) :=
  some (Ae .eql x0.Name c0)
def jv (N:Nat) (x0:(List aA)) (x1:(aA→Option Bool)):Option (Bool) :=
  (gQ N x0 x1).bind fun v1=>some (aN .geq v1 0)
def oh (N:Nat) (x1:(List aA)) (v2:aA) (s13:Int):Option (Int ⊕ (Unit ⊕ Bool)) :=
  bif (aN .lss s13 (List.length v2.Locks:Int)) then ((idx v2.Locks s13).bind fun v14=>(jv N x1 (fun y0=>qJ N y0 v14)).bind fun v15=>bif (!v15) then (some (.inr (Sum.inr false))) else (some (.inl (IntKind.i64.wrap (s13+1))))) else (some (.inr (Sum.inl ())))
def og (N:Nat) (x0:GPermitPlan) (v2:aA) (v3:(List aA)) (s4:Int):Option (Int ⊕ (Unit ⊕ Bool)) :=
  bif (aN .lss s4 (List.length v3:Int)) then ((idx v3 s4).bind fun v5=>(qE N x0 v2 v5).bind fun v6=>bif v6 then (some (.inr (Sum.inr false))) else (some (.inl (IntKind.i64.wrap (s4+1))))) else (some (.inr (Sum.inl ())))
def nZ (N:Nat) (x0:GPermitPlan) (x1:(List aA)) (s1:Int):Option (Int ⊕ (Unit ⊕ Bool)) :=
  bif (aN .lss s1 (List.length x1:Int)) then ((idx x1 s1).bind fun v2=>(QY x1 0 s1).bind fun v3=>(bZ (og N x0 v2 v3) N 0).bind fun o9=>Sum.elim (fun l11=>(bZ (oh N x1 v2) N 0).bind fun Xo=>Sum.elim (fun l20=>some (.inl (IntKind.i64.wrap (s1+1)))) (fun r21=>some (.inr (Sum.inr r21))) Xo) (fun r12=>some (.inr (Sum.inr r12))) o9) else (some (.inr (Sum.inl ())))
def rY (N:Nat) (x0:GPermitPlan) (x1:(List aA)):Option (Bool) :=
  (bZ (nZ N x0 x1) N 0).bind fun Xn=>Sum.elim (fun l27=>some true) (fun r28=>some r28) Xn
def oK (N:Nat) (x0:(List (List Int))) (x1:((List Int)→(List Int)→Option Int)):Option (List (List Int)):=SN x1 x0
def uj (N:Nat) (x0:Int):Option (Bool) :=
  some (aN .neq x0 x0)
def qY (N:Nat) (x0:Int) (x1:Int):Option (Int) :=
  (uj N x0).bind fun v1=>(uj N x1).bind fun v2=>bif v1 then (bif v2 then (some 0) else (some (-1))) else (bif v2 then (some 1) else (bif (aN .lss x0 x1) then (some (-1)) else (bif (aN .gtr x0 x1) then (some 1) else (some 0))))
def fE (N:Nat) (x0:(List Int)) (x1:(List Int)) (s1:Int):Option (Int ⊕ (Unit ⊕ Int)) :=
  bif (aN .lss s1 (List.length x0:Int)) then ((idx x0 s1).bind fun v2=>bif (aN .geq s1 (List.length x1:Int)) then (some (.inr (Sum.inr 1))) else ((idx x1 s1).bind fun v3=>(qY N v2 v3).bind fun v4=>bif (aN .neq v4 0) then (some (.inr (Sum.inr v4))) else (some (.inl (IntKind.i64.wrap (s1+1)))))) else (some (.inr (Sum.inl ())))
def nH (N:Nat) (x0:(List Int)) (x1:(List Int)):Option (Int) :=
  (bZ (fE N x0 x1) N 0).bind fun o8=>Sum.elim (fun l10=>bif (aN .lss (List.length x0:Int) (List.length x1:Int)) then (some (-1)) else (some 0)) (fun r11=>some r11) o8
def nI (N:Nat) (x0:(List Int)) (s1:Int):Option (Int ⊕ (Unit ⊕ Int)) :=
  bif (aN .lss s1 (List.length x0:Int)) then ((idx x0 s1).bind fun v2=>bif (aN .neq v2 0) then (some (.inr (Sum.inr v2))) else (some (.inl (IntKind.i64.wrap (s1+1))))) else (some (.inr (Sum.inl ())))
def yI (N:Nat) (x0:(List Int)):Option (Int) :=
  (bZ (nI N x0) N 0).bind fun o5=>Sum.elim (fun l7=>some 0) (fun r8=>some r8) o5
def lm (N:Nat) (x0:(List Int)) (x1:(List Int)):Option (Int) :=
  (qY N (List.length x0:Int) (List.length x1:Int)).bind fun v1=>(nH N x0 x1).bind fun v2=>(yI N [v1,v2]).bind fun v3=>some v3
def qf (N:Nat) (x0:GPermitPlan) (s2:((List (List Int))×Int)) (s3:((List Int)×(List aA)×Int)):Option (((List Int)×(List aA)×Int) ⊕ ((List Int)×(List aA))) :=
  bif (aN .lss s3.2.2 (List.length x0.ax:Int)) then ((idx x0.ax s3.2.2).bind fun v4=>(Rf .i64 s2.2 s3.2.2).bind fun v5=>bif (aN .eql (Q9 .and .i64 v5 1) 1) then ((app s3.1 [s3.2.2]).bind fun v6=>(app s3.2.1 [v4]).bind fun v7=>some (.inl (v6,v7,(IntKind.i64.wrap (s3.2.2+1))))) else (some (.inl (s3.1,s3.2.1,(IntKind.i64.wrap (s3.2.2+1)))))) else (some (.inr (s3.1,s3.2.1)))
def qc (N:Nat) (x0:GPermitPlan) (v1:Int) (s2:((List (List Int))×Int)):Option (((List (List Int))×Int) ⊕ (List (List Int))) :=
  bif (aN .lss s2.2 v1) then ((bZ (qf N x0 s2) N ([],[],0)).bind fun RJ=>(rY N x0 RJ.2).bind fun v12=>bif v12 then ((app s2.1 [RJ.1]).bind fun v13=>some (.inl (v13,(IntKind.i64.wrap (s2.2+1))))) else (some (.inl (s2.1,(IntKind.i64.wrap (s2.2+1)))))) else (some (.inr s2.1))
def vC (N:Nat) (x0:GPermitPlan):Option ((List (List Int))) :=
  (V7 .i64 1 (List.length x0.ax:Int)).bind fun v1=>(bZ (qc N x0 v1) N ([],0)).bind fun Xq=>(oK N Xq (fun y0 y1=>lm N y0 y1)).bind fun v19=>some v19
def oW (N:Nat) (x0:GPermitPlan) (v2:(List Int)) (s3:((List Str)×Int)):Option (((List Str)×Int) ⊕ (List Str)) :=
  bif (aN .lss s3.2 (List.length v2:Int)) then ((idx v2 s3.2).bind fun v4=>(idx x0.ax v4).bind fun v5=>(app s3.1 [v5.Name]).bind fun v6=>some (.inl (v6,(IntKind.i64.wrap (s3.2+1))))) else (some (.inr s3.1))
def qB (N:Nat) (x0:GPermitPlan) (x1:(List (List Int))) (s1:((List (List Str))×Int)):Option (((List (List Str))×Int) ⊕ (List (List Str))) :=
  bif (aN .lss s1.2 (List.length x1:Int)) then ((idx x1 s1.2).bind fun v2=>(bZ (oW N x0 v2) N ([],0)).bind fun o8=>(app s1.1 [o8]).bind fun v10=>some (.inl (v10,(IntKind.i64.wrap (s1.2+1))))) else (some (.inr s1.1))
def um (N:Nat) (x0:GPermitPlan) (x1:(List (List Int))):Option ((List (List Str))) :=
  (bZ (qB N x0 x1) N ([],0)).bind fun RQ=>some RQ
def rq (N:Nat) (x0:GPermitPlan):Option ((List (List Str))×Int) :=
  (uh N x0).bind fun v1=>bif (aN .neq v1 0) then (some ([],v1)) else ((vC N x0).bind fun v2=>(um N x0 v2).bind fun v3=>some (v3,0))
def qp (N:Nat) (x0:Int) (c0:(List Int)):Option (Bool) :=
  (kW N c0 x0).bind fun v1=>some (!v1)
def jP (N:Nat) (x0:(List Int)) (x1:(Int→Option Bool)) (s1:Int):Option (Int ⊕ (Unit ⊕ Int)) :=
  bif (aN .lss s1 (List.length x0:Int)) then ((idx x0 s1).bind fun v2=>(x1 v2).bind fun v3=>bif v3 then (some (.inr (Sum.inr s1))) else (some (.inl (IntKind.i64.wrap (s1+1))))) else (some (.inr (Sum.inl ())))
def oZ (N:Nat) (x0:(List Int)) (x1:(Int→Option Bool)):Option (Int) :=
  (bZ (jP N x0 x1) N 0).bind fun o6=>Sum.elim (fun l8=>some (-1)) (fun r9=>some r9) o6
def kS (N:Nat) (x0:(List Int)) (x1:(Int→Option Bool)):Option (Bool) :=
  (oZ N x0 x1).bind fun v1=>some (aN .geq v1 0)
def qg (N:Nat) (x0:(List Int)) (c0:(List Int)):Option (Bool) :=
  (bif (aN .gtr (List.length x0:Int) (List.length c0:Int)) then (kS N c0 (fun y0=>qp N y0 x0)) else some false).bind fun v1=>some ((aN .gtr (List.length x0:Int) (List.length c0:Int))&&(!v1))
def jA (N:Nat) (x0:(List (List Int))) (x1:((List Int)→Option Bool)) (s1:Int):Option (Int ⊕ (Unit ⊕ Int)) :=
  bif (aN .lss s1 (List.length x0:Int)) then ((idx x0 s1).bind fun v2=>(x1 v2).bind fun v3=>bif v3 then (some (.inr (Sum.inr s1))) else (some (.inl (IntKind.i64.wrap (s1+1))))) else (some (.inr (Sum.inl ())))
def nR (N:Nat) (x0:(List (List Int))) (x1:((List Int)→Option Bool)):Option (Int) :=
  (bZ (jA N x0 x1) N 0).bind fun o6=>Sum.elim (fun l8=>some (-1)) (fun r9=>some r9) o6
def kG (N:Nat) (x0:(List (List Int))) (x1:((List Int)→Option Bool)):Option (Bool) :=
  (nR N x0 x1).bind fun v1=>some (aN .geq v1 0)
def ng (N:Nat) (v2:(List (List Int))) (s3:((List (List Int))×Int)):Option (((List (List Int))×Int) ⊕ (List (List Int))) :=
  bif (aN .lss s3.2 (List.length v2:Int)) then ((idx v2 s3.2).bind fun v4=>(kG N v2 (fun y0=>qg N y0 v4)).bind fun v5=>bif (!v5) then ((app s3.1 [v4]).bind fun v6=>some (.inl (v6,(IntKind.i64.wrap (s3.2+1))))) else (some (.inl (s3.1,(IntKind.i64.wrap (s3.2+1)))))) else (some (.inr s3.1))
def uo (N:Nat) (x0:GPermitPlan):Option ((List (List Str))×Int) :=
  (uh N x0).bind fun v1=>bif (aN .neq v1 0) then (some ([],v1)) else ((vC N x0).bind fun v2=>(bZ (ng N v2) N ([],0)).bind fun o9=>(um N x0 o9).bind fun v11=>some (v11,0))
def kY (N:Nat) (x0:aA):Option (Bool) :=
  some true
def mD (N:Nat) (g0:ah) (aH:(List (Str×af))) (aB:(List (Str×aj))) (aG:(List (Str×Str))):Option (List Str) :=
  (gY N g0 aH aB aG (fun y0=>kY N y0)).bind fun v1=>some v1
def pG (N:Nat) (x0:(List Str)) (x1:(List Str)) (s1:Int) (s2:(Bool×Int)):Option ((Bool×Int) ⊕ Bool) :=
  bif (aN .lss s2.2 (List.length x0:Int)) then ((bif (!s2.1) then (idx x0 s2.2) else some []).bind fun v3=>(bif (!s2.1) then (idx x1 s1) else some []).bind fun v4=>some (.inl ((s2.1||(Ae .eql v3 v4)),(IntKind.i64.wrap (s2.2+1))))) else (some (.inr s2.1))
def pF (N:Nat) (x0:(List Str)) (x1:(List Str)) (s1:Int):Option (Int ⊕ (Unit ⊕ Bool)) :=
  bif (aN .lss s1 (List.length x1:Int)) then ((bZ (pG N x0 x1 s1) N (false,0)).bind fun o6=>bif (!o6) then (some (.inr (Sum.inr false))) else (some (.inl (IntKind.i64.wrap (s1+1))))) else (some (.inr (Sum.inl ())))
def uq (N:Nat) (x0:(List Str)) (x1:(List Str)):Option (Bool) :=
  (bZ (pF N x0 x1) N 0).bind fun Xr=>Sum.elim (fun l13=>some true) (fun r14=>some r14) Xr
def jZ (N:Nat) (v4:((List (List Str))×Int)) (v18:(List Str)) (UR:(Bool×Int)):Option ((Bool×Int) ⊕ Bool) :=
  bif (aN .lss UR.2 (List.length v4.1:Int)) then ((bif (!UR.1) then (idx v4.1 UR.2) else some []).bind fun v26=>(bif (!UR.1) then (uq N v26 v18) else some false).bind fun v27=>some (.inl ((UR.1||v27),(IntKind.i64.wrap (UR.2+1))))) else (some (.inr UR.1))
def jY (N:Nat) (v3:((List (List Str))×Int)) (v18:(List Str)) (UO:(Bool×Int)):Option ((Bool×Int) ⊕ Bool) :=
  bif (aN .lss UO.2 (List.length v3.1:Int)) then ((bif (!UO.1) then (idx v3.1 UO.2) else some []).bind fun v20=>(bif (!UO.1) then (uQ N v20 v18) else some false).bind fun v21=>some (.inl ((UO.1||v21),(IntKind.i64.wrap (UO.2+1))))) else (some (.inr UO.1))
def lC (N:Nat) (x1:(List GEvent)) (v3:((List (List Str))×Int)) (v4:((List (List Str))×Int)) (s12:(Int×ah×(List (Str×af))×(List (Str×aj))×(List (Str×Str)))):Option ((Int×ah×(List (Str×af))×(List (Str×aj))×(List (Str×Str))) ⊕ ((ah×(List (Str×af))×(List (Str×aj))×(List (Str×Str))) ⊕ (Bool×ah×(List (Str×af))×(List (Str×aj))×(List (Str×Str))))) :=
  bif (aN .leq s12.1 (List.length x1:Int)) then (((bif (aN .gtr s12.1 0) then ((idx x1 (IntKind.i64.wrap (s12.1 - 1))).bind fun v13=>(kR N s12.2.1 s12.2.2.1 s12.2.2.2.1 s12.2.2.2.2 v13).bind fun v14=>some (v14.1,v14.2.1,v14.2.2.1,v14.2.2.2.1)) else (some (s12.2.1,s12.2.2.1,s12.2.2.2.1,s12.2.2.2.2))):Option (ah×(List (Str×af))×(List (Str×aj))×(List (Str×Str)))).bind fun o16=>(mD N o16.1 o16.2.1 o16.2.2.1 o16.2.2.2).bind fun v18=>(bZ (jY N v3 v18) N (false,0)).bind fun o23=>(bZ (jZ N v4 v18) N (false,0)).bind fun o29=>bif ((!o23)||(!o29)) then (some (.inr (Sum.inr (false,o16.1,o16.2.1,o16.2.2.1,o16.2.2.2)))) else (some (.inl ((IntKind.i64.wrap (s12.1+1)),o16.1,o16.2.1,o16.2.2.1,o16.2.2.2)))) else (some (.inr (Sum.inl (s12.2.1,s12.2.2.1,s12.2.2.2.1,s12.2.2.2.2))))
def rG (N:Nat) (x0:GPermitPlan) (x1:(List GEvent)):Option (Bool) :=
  (xw N x0).bind fun v1=>bif (((!v1)||(aN .gtr (List.length x0.ax:Int) 6))||(aN .gtr (List.length x1:Int) 30)) then ((wK N).bind fun v2=>some v2) else ((rq N x0).bind fun v3=>(uo N x0).bind fun v4=>(rC N x0).bind fun v5=>JL v5 (fun v5e=>some false) (fun zJ v5e=>bif (false||(aN .neq (IntKind.i64.wrap ((IntKind.i64.wrap (v3.2+v4.2))+v5e)) 0)) then (some false) else ((bZ (lC N x1 v3 v4) N (0,zJ.1,zJ.2.1,zJ.2.2.1,zJ.2.2.2)).bind fun o35=>Sum.elim (fun l37=>(wK N).bind fun v39=>some v39) (fun r38=>some r38.1) o35)))
end
end Go.KB
