/- The functions as plain Lean functions. Printed by a program. No condition. -/
import Derived.Test.YtalkbgomndhkmaaGreatGTypes
import Derived.Test.YtalkbgomndhkmaaGreatKSos
namespace Go.KB
set_option linter.unusedVariables false
noncomputable section
def oz (N:Nat) (x0:GPermitPlan) (s10:Int):Option (Int ⊕ (Unit ⊕ Bool)) :=
  bif (aV .lss s10 (List.length x0.aB:Int)) then ((idx x0.aB s10).bind fun v11=>(bif (!(aV .gtr (List.length v11.Locks:Int) 20)) then (idx x0.aB s10) else some (⟨[],0,[],0,0,[]⟩:aG)).bind fun v12=>bif ((aV .gtr (List.length v11.Locks:Int) 20)||(aV .gtr (List.length v12.Name:Int) 40)) then (some (.inr (Sum.inr true))) else (some (.inl (IntKind.i64.wrap (s10+1))))) else (some (.inr (Sum.inl ())))
def ou (N:Nat) (x0:GPermitPlan) (s1:Int):Option (Int ⊕ (Unit ⊕ Bool)) :=
  bif (aV .lss s1 (List.length x0.bP:Int)) then ((idx x0.bP s1).bind fun v2=>(bif (!(aV .gtr (List.length v2.Next:Int) 40)) then (idx x0.bP s1) else some (⟨[],false,[]⟩:dm)).bind fun v3=>bif ((aV .gtr (List.length v2.Next:Int) 40)||(aV .gtr (List.length v3.Name:Int) 40)) then (some (.inr (Sum.inr true))) else (some (.inl (IntKind.i64.wrap (s1+1))))) else (some (.inr (Sum.inl ())))
def uV (N:Nat) (x0:GPermitPlan):Option (Bool) :=
  bif (((aV .gtr (List.length x0.bP:Int) 40)||(aV .gtr (List.length x0.dn:Int) 40))||(aV .gtr (List.length x0.aB:Int) 30)) then (some true) else ((dB (ou N x0) N 0).bind fun o6=>Sum.elim (fun l8=>(dB (oz N x0) N 0).bind fun NY=>Sum.elim (fun l17=>some false) (fun Ul=>some Ul) NY) (fun r9=>some r9) o6)
def yg (N:Nat) (x0:Str) (s1:Int):Option (Int ⊕ (Unit ⊕ Bool)) :=
  bif (aV .lss s1 (List.length x0:Int)) then ((idx x0 s1).bind fun v2=>bif ((!(((aV .geq ((UInt8.toNat v2:Nat):Int) 97)&&(aV .leq ((UInt8.toNat v2:Nat):Int) 122))||((aV .geq ((UInt8.toNat v2:Nat):Int) 65)&&(aV .leq ((UInt8.toNat v2:Nat):Int) 90))))&&((aV .eql s1 0)||((aV .neq ((UInt8.toNat v2:Nat):Int) 45)&&((aV .lss ((UInt8.toNat v2:Nat):Int) 48)||(aV .gtr ((UInt8.toNat v2:Nat):Int) 57))))) then (some (.inr (Sum.inr false))) else (some (.inl (IntKind.i64.wrap (s1+1))))) else (some (.inr (Sum.inl ())))
def wH (N:Nat) (x0:Str):Option (Bool) :=
  bif ((aV .lss (List.length x0:Int) 1)||(aV .gtr (List.length x0:Int) 12)) then (some false) else ((dB (yg N x0) N 0).bind fun o5=>Sum.elim (fun l7=>some true) (fun r8=>some r8) o5)
def uh (N:Nat) (x0:GPermitPlan) (x1:Str) (s1:Int):Option (Int ⊕ (Unit ⊕ Int)) :=
  bif (aV .lss s1 (List.length x0.bP:Int)) then ((idx x0.bP s1).bind fun v2=>bif (xM .eql v2.Name x1) then (some (.inr (Sum.inr s1))) else (some (.inl (IntKind.i64.wrap (s1+1))))) else (some (.inr (Sum.inl ())))
def sK (N:Nat) (x0:GPermitPlan) (x1:Str):Option (Int) :=
  (dB (uh N x0 x1) N 0).bind fun o5=>Sum.elim (fun l7=>some (-1)) (fun r8=>some r8) o5
def uj (N:Nat) (x0:GPermitPlan) (x1:Int) (x2:Str):Option (Bool) :=
  (sK N x0 x2).bind fun v1=>some ((aV .geq v1 0)&&(aV .lss v1 x1))
def mQ (N:Nat) (x0:GPermitPlan) (s15:Int) (s16:Int):Option (Int ⊕ (Unit ⊕ Int)) :=
  (idx x0.bP s15).bind fun v17=>bif (aV .lss s16 (List.length v17.Next:Int)) then ((idx x0.bP s15).bind fun v18=>(idx v18.Next s16).bind fun v19=>(sK N x0 v19).bind fun v20=>bif (aV .lss v20 0) then (some (.inr (Sum.inr 6))) else ((idx x0.bP s15).bind fun v21=>(idx v21.Next s16).bind fun v22=>(idx x0.bP s15).bind fun v23=>bif (xM .eql v22 v23.Name) then (some (.inr (Sum.inr 3))) else (some (.inl (IntKind.i64.wrap (s16+1)))))) else (some (.inr (Sum.inl ())))
def mP (N:Nat) (x0:GPermitPlan) (s15:Int):Option (Int ⊕ (Unit ⊕ Int)) :=
  bif (aV .lss s15 (List.length x0.bP:Int)) then ((dB (mQ N x0 s15) N 0).bind fun o27=>Sum.elim (fun l29=>some (.inl (IntKind.i64.wrap (s15+1)))) (fun r30=>some (.inr (Sum.inr r30))) o27) else (some (.inr (Sum.inl ())))
def mO (N:Nat) (x0:GPermitPlan) (s1:Int):Option (Int ⊕ (Unit ⊕ Int)) :=
  bif (aV .lss s1 (List.length x0.bP:Int)) then ((idx x0.bP s1).bind fun v2=>(wH N v2.Name).bind fun v3=>bif (!v3) then (some (.inr (Sum.inr 4))) else ((idx x0.bP s1).bind fun v4=>(uj N x0 s1 v4.Name).bind fun v5=>bif v5 then (some (.inr (Sum.inr 5))) else ((idx x0.bP s1).bind fun v6=>bif (aV .gtr (List.length v6.Next:Int) 30) then (some (.inr (Sum.inr 8))) else (some (.inl (IntKind.i64.wrap (s1+1))))))) else (some (.inr (Sum.inl ())))
def qK (N:Nat) (x0:GPermitPlan):Option (Int) :=
  (dB (mO N x0) N 0).bind fun WM=>Sum.elim (fun l13=>(dB (mP N x0) N 0).bind fun o33=>Sum.elim (fun l35=>some 0) (fun r36=>some r36) o33) (fun r14=>some r14) WM
def vY (N:Nat) (x0:Int):Option (Bool) :=
  some ((aV .geq x0 0)&&(aV .leq x0 5))
def rW (N:Nat) (x0:GPermitPlan) (x1:Str) (s1:Int):Option (Int ⊕ (Unit ⊕ Int)) :=
  bif (aV .lss s1 (List.length x0.aB:Int)) then ((idx x0.aB s1).bind fun v2=>bif (xM .eql v2.Name x1) then (some (.inr (Sum.inr s1))) else (some (.inl (IntKind.i64.wrap (s1+1))))) else (some (.inr (Sum.inl ())))
def ul (N:Nat) (x0:GPermitPlan) (x1:Str):Option (Int) :=
  (dB (rW N x0 x1) N 0).bind fun o5=>Sum.elim (fun l7=>some (-1)) (fun r8=>some r8) o5
def oG (N:Nat) (x0:GPermitPlan) (v29:aG) (s30:Int):Option (Int ⊕ (Unit ⊕ Int)) :=
  bif (aV .lss s30 (List.length v29.Locks:Int)) then ((idx v29.Locks s30).bind fun v31=>(ul N x0 v31).bind fun v32=>bif (aV .lss v32 0) then (some (.inr (Sum.inr 6))) else ((idx x0.aB v32).bind fun v33=>bif ((aV .neq v33.Kind 5)||(aV .eql v29.Kind 5)) then (some (.inr (Sum.inr 3))) else (some (.inl (IntKind.i64.wrap (s30+1)))))) else (some (.inr (Sum.inl ())))
def oD (N:Nat) (x0:GPermitPlan) (XB:Int):Option (Int ⊕ (Unit ⊕ Int)) :=
  bif (aV .lss XB (List.length x0.aB:Int)) then ((idx x0.aB XB).bind fun v29=>(dB (oG N x0 v29) N 0).bind fun o37=>Sum.elim (fun l39=>some (.inl (IntKind.i64.wrap (XB+1)))) (fun r40=>some (.inr (Sum.inr r40))) o37) else (some (.inr (Sum.inl ())))
def oC (N:Nat) (x0:GPermitPlan) (s12:Int):Option (Int ⊕ (Unit ⊕ Int)) :=
  bif (aV .lss s12 (List.length x0.aB:Int)) then ((idx x0.aB s12).bind fun v13=>(wH N v13.Name).bind fun v14=>bif (!v14) then (some (.inr (Sum.inr 4))) else ((ul N x0 v13.Name).bind fun v15=>bif (aV .lss v15 s12) then (some (.inr (Sum.inr 5))) else ((vY N v13.Kind).bind fun v16=>bif ((((!v16)||(aV .lss v13.From 0))||(aV .geq v13.From v13.To))||(aV .gtr v13.To 1000000)) then (some (.inr (Sum.inr 2))) else ((sK N x0 v13.Space).bind fun v17=>bif (aV .lss v17 0) then (some (.inr (Sum.inr 6))) else (bif (aV .gtr (List.length v13.Locks:Int) 10) then (some (.inr (Sum.inr 8))) else (some (.inl (IntKind.i64.wrap (s12+1))))))))) else (some (.inr (Sum.inl ())))
def rY (N:Nat) (x0:GPermitPlan) (s2:Int):Option (Int ⊕ (Unit ⊕ Int)) :=
  bif (aV .lss s2 (List.length x0.dn:Int)) then ((idx x0.dn s2).bind fun v3=>(vY N v3.A).bind fun v4=>(bif (!(!v4)) then (vY N v3.B) else some false).bind fun v5=>bif ((((!v4)||(!v5))||(aV .lss v3.Reach 0))||(aV .gtr v3.Reach 2)) then (some (.inr (Sum.inr 2))) else (some (.inl (IntKind.i64.wrap (s2+1))))) else (some (.inr (Sum.inl ())))
def rX (N:Nat) (x0:GPermitPlan):Option (Int) :=
  bif (((aV .gtr (List.length x0.bP:Int) 30)||(aV .gtr (List.length x0.dn:Int) 30))||(aV .gtr (List.length x0.aB:Int) 20)) then (some 8) else (bif ((aV .lss x0.dN 1)||(aV .gtr x0.dN 10000)) then (some 2) else ((qK N x0).bind fun v1=>bif (aV .neq v1 0) then (some v1) else ((dB (rY N x0) N 0).bind fun o8=>Sum.elim (fun l10=>(dB (oC N x0) N 0).bind fun WR=>Sum.elim (fun l26=>(dB (oD N x0) N 0).bind fun o43=>Sum.elim (fun l45=>some 0) (fun r46=>some r46) o43) (fun r27=>some r27) WR) (fun r11=>some r11) o8)))
def xq (N:Nat) (x0:GPermitPlan):Option (Bool) :=
  (uV N x0).bind fun v1=>(bif (!v1) then (rX N x0) else some 0).bind fun v2=>some (((((!v1)&&(aV .eql v2 0))&&(aV .leq (List.length x0.bP:Int) 8))&&(aV .leq (List.length x0.aB:Int) 8))&&(aV .leq (List.length x0.dn:Int) 12))
def AV (N:Nat) (x0:GPermitPlan):Option (Bool) :=
  (xq N x0).bind fun v1=>some v1
def xC (N:Nat):Option ((List bK)) :=
  some [(⟨0,2,1⟩:bK),(⟨3,0,1⟩:bK),(⟨3,1,1⟩:bK),(⟨3,2,1⟩:bK),(⟨3,3,1⟩:bK),(⟨4,4,0⟩:bK)]
def uN (N:Nat) (x0:Int):Option (Bool) :=
  some (((aV .geq x0 97)&&(aV .leq x0 122))||((aV .geq x0 65)&&(aV .leq x0 90)))
def qc (N:Nat) (x0:Str) (s3:Int):Option (Int ⊕ (Unit ⊕ Bool)) :=
  bif (aV .lss s3 (List.length x0:Int)) then ((idx x0 s3).bind fun v4=>(uN N ((UInt8.toNat v4:Nat):Int)).bind fun v5=>bif (((!v5)&&(aV .neq ((UInt8.toNat v4:Nat):Int) 45))&&((aV .lss ((UInt8.toNat v4:Nat):Int) 48)||(aV .gtr ((UInt8.toNat v4:Nat):Int) 57))) then (some (.inr (Sum.inr false))) else (some (.inl (IntKind.i64.wrap (s3+1))))) else (some (.inr (Sum.inl ())))
def nM (N:Nat) (x0:Str):Option (Bool) :=
  (bif (!((aV .lss (List.length x0:Int) 1)||(aV .gtr (List.length x0:Int) 12))) then (idx x0 0) else some 0).bind fun v1=>(bif (!((aV .lss (List.length x0:Int) 1)||(aV .gtr (List.length x0:Int) 12))) then (uN N ((UInt8.toNat v1:Nat):Int)) else some false).bind fun v2=>bif (((aV .lss (List.length x0:Int) 1)||(aV .gtr (List.length x0:Int) 12))||(!v2)) then (some false) else ((dB (qc N x0) N 0).bind fun o8=>Sum.elim (fun l10=>some true) (fun r11=>some r11) o8)
def mr (N:Nat) (l10:(List (Str×Bool))) (v13:dm) (s14:Int):Option (Int ⊕ (Unit ⊕ Int)) :=
  bif (aV .lss s14 (List.length v13.Next:Int)) then ((idx v13.Next s14).bind fun v15=>bif (!(iC false l10 v15)) then (some (.inr (Sum.inr 6))) else (bif (xM .eql v15 v13.Name) then (some (.inr (Sum.inr 3))) else (some (.inl (IntKind.i64.wrap (s14+1)))))) else (some (.inr (Sum.inl ())))
def mg (N:Nat) (x0:GPermitPlan) (l10:(List (Str×Bool))) (s12:Int):Option (Int ⊕ (Unit ⊕ Int)) :=
  bif (aV .lss s12 (List.length x0.bP:Int)) then ((idx x0.bP s12).bind fun v13=>(dB (mr N l10 v13) N 0).bind fun Wq=>Sum.elim (fun l21=>some (.inl (IntKind.i64.wrap (s12+1)))) (fun r22=>some (.inr (Sum.inr r22))) Wq) else (some (.inr (Sum.inl ())))
def l9 (N:Nat) (x0:GPermitPlan) (s1:((List (Str×Bool))×Int)):Option (((List (Str×Bool))×Int) ⊕ ((List (Str×Bool)) ⊕ Int)) :=
  bif (aV .lss s1.2 (List.length x0.bP:Int)) then ((idx x0.bP s1.2).bind fun v2=>(nM N v2.Name).bind fun v3=>bif (!v3) then (some (.inr (Sum.inr 4))) else (bif (iC false s1.1 v2.Name) then (some (.inr (Sum.inr 5))) else (bif (aV .gtr (List.length v2.Next:Int) 30) then (some (.inr (Sum.inr 8))) else (some (.inl ((oZ s1.1 v2.Name true),(IntKind.i64.wrap (s1.2+1)))))))) else (some (.inr (Sum.inl s1.1)))
def qw (N:Nat) (x0:GPermitPlan):Option (Int) :=
  (dB (l9 N x0) N (([]:(List (Str×Bool))),0)).bind fun o8=>Sum.elim (fun l10=>(dB (mg N x0 l10) N 0).bind fun WJ=>Sum.elim (fun l27=>some 0) (fun r28=>some r28) WJ) (fun r11=>some r11) o8
def uX (N:Nat) (x0:Int):Option (Bool) :=
  some ((aV .geq x0 0)&&(aV .leq x0 5))
def qY (N:Nat) (x0:dm) (c0:Str):Option (Bool) :=
  some (xM .eql x0.Name c0)
def iQ (N:Nat) (x0:(List dm)) (x1:(dm→Option Bool)) (s1:Int):Option (Int ⊕ (Unit ⊕ Int)) :=
  bif (aV .lss s1 (List.length x0:Int)) then ((idx x0 s1).bind fun v2=>(x1 v2).bind fun v3=>bif v3 then (some (.inr (Sum.inr s1))) else (some (.inl (IntKind.i64.wrap (s1+1))))) else (some (.inr (Sum.inl ())))
def jo (N:Nat) (x0:(List dm)) (x1:(dm→Option Bool)):Option (Int) :=
  (dB (iQ N x0 x1) N 0).bind fun o6=>Sum.elim (fun l8=>some (-1)) (fun r9=>some r9) o6
def iY (N:Nat) (x0:GPermitPlan) (x1:Str):Option (dm×Bool) :=
  (jo N x0.bP (fun y0=>qY N y0 x1)).bind fun v1=>bif (aV .lss v1 0) then (some ((⟨[],false,[]⟩:dm),false)) else ((idx x0.bP v1).bind fun v2=>some (v2,true))
def qL (N:Nat) (x0:aG) (c0:Str):Option (Bool) :=
  some (xM .eql x0.Name c0)
def iH (N:Nat) (x0:(List aG)) (x1:(aG→Option Bool)) (s1:Int):Option (Int ⊕ (Unit ⊕ Int)) :=
  bif (aV .lss s1 (List.length x0:Int)) then ((idx x0 s1).bind fun v2=>(x1 v2).bind fun v3=>bif v3 then (some (.inr (Sum.inr s1))) else (some (.inl (IntKind.i64.wrap (s1+1))))) else (some (.inr (Sum.inl ())))
def gX (N:Nat) (x0:(List aG)) (x1:(aG→Option Bool)):Option (Int) :=
  (dB (iH N x0 x1) N 0).bind fun o6=>Sum.elim (fun l8=>some (-1)) (fun r9=>some r9) o6
def jO (N:Nat) (x0:GPermitPlan) (x1:Str):Option (aG×Bool) :=
  (gX N x0.aB (fun y0=>qL N y0 x1)).bind fun v1=>bif (aV .lss v1 0) then (some ((⟨[],0,[],0,0,[]⟩:aG),false)) else ((idx x0.aB v1).bind fun v2=>some (v2,true))
def lU (N:Nat) (x0:GPermitPlan) (v17:aG) (s18:Int):Option (Int ⊕ (Unit ⊕ Int)) :=
  bif (aV .lss s18 (List.length v17.Locks:Int)) then ((idx v17.Locks s18).bind fun v19=>(jO N x0 v19).bind fun v20=>bif (!v20.2) then (some (.inr (Sum.inr 6))) else (bif ((aV .neq v20.1.Kind 5)||(aV .eql v17.Kind 5)) then (some (.inr (Sum.inr 3))) else (some (.inl (IntKind.i64.wrap (s18+1)))))) else (some (.inr (Sum.inl ())))
def lT (N:Nat) (x0:GPermitPlan) (s16:Int):Option (Int ⊕ (Unit ⊕ Int)) :=
  bif (aV .lss s16 (List.length x0.aB:Int)) then ((idx x0.aB s16).bind fun v17=>(dB (lU N x0 v17) N 0).bind fun WR=>Sum.elim (fun l26=>some (.inl (IntKind.i64.wrap (s16+1)))) (fun r27=>some (.inr (Sum.inr r27))) WR) else (some (.inr (Sum.inl ())))
def lQ (N:Nat) (x0:GPermitPlan) (s1:((List (Str×Bool))×Int)):Option (((List (Str×Bool))×Int) ⊕ (Unit ⊕ Int)) :=
  bif (aV .lss s1.2 (List.length x0.aB:Int)) then ((idx x0.aB s1.2).bind fun v2=>(iY N x0 v2.Space).bind fun v3=>(nM N v2.Name).bind fun v4=>bif (!v4) then (some (.inr (Sum.inr 4))) else (bif (iC false s1.1 v2.Name) then (some (.inr (Sum.inr 5))) else ((uX N v2.Kind).bind fun v5=>bif ((((!v5)||(aV .lss v2.From 0))||(aV .geq v2.From v2.To))||(aV .gtr v2.To 1000000)) then (some (.inr (Sum.inr 2))) else (bif (!v3.2) then (some (.inr (Sum.inr 6))) else (bif (aV .gtr (List.length v2.Locks:Int) 10) then (some (.inr (Sum.inr 8))) else (some (.inl ((oZ s1.1 v2.Name true),(IntKind.i64.wrap (s1.2+1)))))))))) else (some (.inr (Sum.inl ())))
def pU (N:Nat) (x0:GPermitPlan):Option (Int) :=
  (dB (lQ N x0) N (([]:(List (Str×Bool))),0)).bind fun Un=>Sum.elim (fun l14=>(dB (lT N x0) N 0).bind fun o30=>Sum.elim (fun l32=>some 0) (fun r33=>some r33) o30) (fun r15=>some r15) Un
def nI (N:Nat) (x0:GPermitPlan) (s2:Int):Option (Int ⊕ (Unit ⊕ Int)) :=
  bif (aV .lss s2 (List.length x0.dn:Int)) then ((idx x0.dn s2).bind fun v3=>(uX N v3.A).bind fun v4=>(bif (!(!v4)) then (uX N v3.B) else some false).bind fun v5=>bif ((((!v4)||(!v5))||(aV .lss v3.Reach 0))||(aV .gtr v3.Reach 2)) then (some (.inr (Sum.inr 2))) else (some (.inl (IntKind.i64.wrap (s2+1))))) else (some (.inr (Sum.inl ())))
def nT (N:Nat) (x0:GPermitPlan):Option (Int) :=
  bif (((aV .gtr (List.length x0.bP:Int) 30)||(aV .gtr (List.length x0.dn:Int) 30))||(aV .gtr (List.length x0.aB:Int) 20)) then (some 8) else (bif ((aV .lss x0.dN 1)||(aV .gtr x0.dN 10000)) then (some 2) else ((qw N x0).bind fun v1=>bif (aV .neq v1 0) then (some v1) else ((dB (nI N x0) N 0).bind fun o8=>Sum.elim (fun l10=>(pU N x0).bind fun v12=>some v12) (fun r11=>some r11) o8)))
def jJ (N:Nat) (x0:(List Str)) (x1:Str) (s1:Int):Option (Int ⊕ (Unit ⊕ Int)) :=
  bif (aV .lss s1 (List.length x0:Int)) then ((idx x0 s1).bind fun v2=>bif (xM .eql x1 v2) then (some (.inr (Sum.inr s1))) else (some (.inl (IntKind.i64.wrap (s1+1))))) else (some (.inr (Sum.inl ())))
def nO (N:Nat) (x0:(List Str)) (x1:Str):Option (Int) :=
  (dB (jJ N x0 x1) N 0).bind fun o5=>Sum.elim (fun l7=>some (-1)) (fun r8=>some r8) o5
def eY (N:Nat) (x0:(List Str)) (x1:Str):Option (Bool) :=
  (nO N x0 x1).bind fun v1=>some (aV .geq v1 0)
def qm (N:Nat) (x0:GPermitPlan) (x1:Str) (x2:Str):Option (Int) :=
  (iY N x0 x1).bind fun v1=>(iY N x0 x2).bind fun v2=>bif (xM .eql x1 x2) then (some 0) else ((eY N v1.1.Next x2).bind fun v3=>(bif (!v3) then (eY N v2.1.Next x1) else some false).bind fun v4=>bif (v3||v4) then (some 1) else (some 2))
def qJ (N:Nat) (x0:bK) (c0:Int) (c1:aG) (c2:aG):Option (Bool) :=
  some ((aV .leq c0 x0.Reach)&&(((aV .eql x0.A c1.Kind)&&(aV .eql x0.B c2.Kind))||((aV .eql x0.A c2.Kind)&&(aV .eql x0.B c1.Kind))))
def gy (N:Nat) (x0:(List bK)) (x1:(bK→Option Bool)) (s1:Int):Option (Int ⊕ (Unit ⊕ Int)) :=
  bif (aV .lss s1 (List.length x0:Int)) then ((idx x0 s1).bind fun v2=>(x1 v2).bind fun v3=>bif v3 then (some (.inr (Sum.inr s1))) else (some (.inl (IntKind.i64.wrap (s1+1))))) else (some (.inr (Sum.inl ())))
def gZ (N:Nat) (x0:(List bK)) (x1:(bK→Option Bool)):Option (Int) :=
  (dB (gy N x0 x1) N 0).bind fun o6=>Sum.elim (fun l8=>some (-1)) (fun r9=>some r9) o6
def iO (N:Nat) (x0:(List bK)) (x1:(bK→Option Bool)):Option (Bool) :=
  (gZ N x0 x1).bind fun v1=>some (aV .geq v1 0)
def oU (N:Nat) (x0:GPermitPlan) (x1:aG) (x2:aG):Option (Bool) :=
  bif (xM .eql x1.Name x2.Name) then (some false) else ((qm N x0 x1.Space x2.Space).bind fun v1=>(iO N x0.dn (fun y0=>qJ N y0 v1 x1 x2)).bind fun v2=>some v2)
def xB (N:Nat) (x0:GPermitPlan) (x1:Str) (x2:Str):Option (Bool×Int) :=
  (nT N x0).bind fun v1=>bif (aV .neq v1 0) then (some (false,v1)) else ((jO N x0 x1).bind fun v2=>(jO N x0 x2).bind fun v3=>bif ((!v2.2)||(!v3.2)) then (some (false,6)) else ((oU N x0 v2.1 v3.1).bind fun v4=>some (v4,0)))
def xg (N:Nat):Option (Bool) :=
  (xC N).bind fun v1=>(xB N (⟨[(⟨([104,111,108,100]:Str),false,[]⟩:dm)],v1,[(⟨([97]:Str),0,([104,111,108,100]:Str),0,9,[]⟩:aG),(⟨([98]:Str),2,([104,111,108,100]:Str),0,9,[]⟩:aG)],60⟩:GPermitPlan) ([97]:Str) ([98]:Str)).bind fun v2=>some ((aV .eql v2.2 0)&&v2.1)
def jV (N:Nat) (x0:(List dm)):Option ((List dm)) :=
  (app ([]:(List dm)) x0).bind fun v1=>some v1
def iL (N:Nat) (x0:(List bK)):Option ((List bK)) :=
  (app ([]:(List bK)) x0).bind fun v1=>some v1
def jI (N:Nat) (x0:(List aG)):Option ((List aG)) :=
  (app ([]:(List aG)) x0).bind fun v1=>some v1
def fJ (N:Nat) (x0:(List Str)):Option ((List Str)) :=
  (app ([]:(List Str)) x0).bind fun v1=>some v1
def nV (N:Nat) (v3:(List aG)) (s14:(Int×(List aG))):Option ((Int×(List aG)) ⊕ (List aG)) :=
  bif (aV .lss s14.1 (List.length v3:Int)) then ((idx s14.2 s14.1).bind fun v15=>(fJ N v15.Locks).bind fun v16=>(idx s14.2 s14.1).bind fun v17=>some (.inl ((IntKind.i64.wrap (s14.1+1)),(List.set s14.2 (Int.toNat s14.1) ({ v17 with Locks:=v16 }:aG))))) else (some (.inr s14.2))
def nU (N:Nat) (v1:(List dm)) (s7:(Int×(List dm))):Option ((Int×(List dm)) ⊕ (List dm)) :=
  bif (aV .lss s7.1 (List.length v1:Int)) then ((idx s7.2 s7.1).bind fun v8=>(fJ N v8.Next).bind fun v9=>(idx s7.2 s7.1).bind fun v10=>some (.inl ((IntKind.i64.wrap (s7.1+1)),(List.set s7.2 (Int.toNat s7.1) ({ v10 with Next:=v9 }:dm))))) else (some (.inr s7.2))
def uM (N:Nat) (x0:GPermitPlan):Option (GPermitPlan) :=
  (jV N x0.bP).bind fun v1=>(iL N x0.dn).bind fun v2=>(jI N x0.aB).bind fun v3=>(dB (nU N v1) N (0,v1)).bind fun Un=>(dB (nV N v3) N (0,v3)).bind fun Wq=>some ({ ({ x0 with dn:=v2 }:GPermitPlan) with bP:=Un,aB:=Wq }:GPermitPlan)
def lD (N:Nat) (x0:(List Int)) (x1:Int) (s1:Int):Option (Int ⊕ (Unit ⊕ Int)) :=
  bif (aV .lss s1 (List.length x0:Int)) then ((idx x0 s1).bind fun v2=>bif (aV .eql x1 v2) then (some (.inr (Sum.inr s1))) else (some (.inl (IntKind.i64.wrap (s1+1))))) else (some (.inr (Sum.inl ())))
def qO (N:Nat) (x0:(List Int)) (x1:Int):Option (Int) :=
  (dB (lD N x0 x1) N 0).bind fun o5=>Sum.elim (fun l7=>some (-1)) (fun r8=>some r8) o5
def ny (N:Nat) (x0:(List Int)) (x1:Int):Option (Bool) :=
  (qO N x0 x1).bind fun v1=>some (aV .geq v1 0)
def dJ (N:Nat) (g0:af) (aI:(List (Str×ah))) (aC:(List (Str×ai))) (aF:(List (Str×Str))) (x1:Str) (x2:(List Int)):Option Bool :=
  (ny N x2 ((iC (⟨0,[],0⟩:ah) aI x1).state)).bind fun v1=>some v1
def dP (N:Nat) (g0:af) (aI:(List (Str×ah))) (aC:(List (Str×ai))) (aF:(List (Str×Str))) (x1:Str) (x2:Int):Option (List (Str×ah)) :=
  some (oZ aI x1 ({ (iC (⟨0,[],0⟩:ah) aI x1) with state:=x2 }:ah))
def qG (N:Nat) (x0:GPermitPlan) (v1:(dm×Bool)) (s11:((List Str)×Int)):Option (((List Str)×Int) ⊕ (List Str)) :=
  bif (aV .lss s11.2 (List.length x0.bP:Int)) then ((idx x0.bP s11.2).bind fun v12=>(bif v12.dX then (qm N x0 v12.Name v1.1.Name) else some 0).bind fun v13=>bif (v12.dX&&(aV .eql v13 1)) then ((app s11.1 [v12.Name]).bind fun v14=>some (.inl (v14,(IntKind.i64.wrap (s11.2+1))))) else (some (.inl (s11.1,(IntKind.i64.wrap (s11.2+1)))))) else (some (.inr s11.1))
def vK (N:Nat) (x0:GPermitPlan) (x1:aG):Option ((List Str)) :=
  (iY N x0 x1.Space).bind fun v1=>((((bif (aV .eql x1.Kind 0) then (some (aV .eql x1.Kind 0)) else (bif (aV .eql x1.Kind 1) then (some (aV .eql x1.Kind 1)) else (some (aV .eql x1.Kind 2)))):Option Bool).bind fun o4=>bif o4 then (bif v1.1.dX then ((app [] [v1.1.Name]).bind fun v6=>some v6) else (some [])) else (some [])):Option (List Str)).bind fun o9=>bif (aV .eql x1.Kind 0) then ((dB (qG N x0 v1) N (o9,0)).bind fun Wv=>some Wv) else (some o9)
def oV (N:Nat) (g0:af) (aI:(List (Str×ah))) (aC:(List (Str×ai))) (aF:(List (Str×Str))) (x1:Str):Option (Bool×Bool) :=
  (iY N g0.plan x1).bind fun v1=>bif (!v1.1.dX) then (some (true,true)) else (some ((((((mJ aC x1)&&(aV .leq (IntKind.i64.wrap (g0.now - ((iC (⟨0,0,0⟩:ai) aC x1).at_))) g0.plan.dN))&&(aV .geq ((iC (⟨0,0,0⟩:ai) aC x1).ku) 195))&&(aV .leq ((iC (⟨0,0,0⟩:ai) aC x1).ku) 235))&&(aV .leq ((iC (⟨0,0,0⟩:ai) aC x1).KW) 50)),((((((mJ aC x1)&&(aV .leq (IntKind.i64.wrap (g0.now - ((iC (⟨0,0,0⟩:ai) aC x1).at_))) g0.plan.dN))&&(aV .geq ((iC (⟨0,0,0⟩:ai) aC x1).ku) 195))&&(aV .leq ((iC (⟨0,0,0⟩:ai) aC x1).ku) 235))&&(aV .leq ((iC (⟨0,0,0⟩:ai) aC x1).KW) 50))&&(aV .leq ((iC (⟨0,0,0⟩:ai) aC x1).KW) 10))))
def kP (N:Nat) (g0:af) (aI:(List (Str×ah))) (aC:(List (Str×ai))) (aF:(List (Str×Str))) (x0:Str) (c1:aG):Option Bool :=
  (oV N g0 aI aC aF x0).bind fun v1=>bif (aV .eql c1.Kind 0) then (some v1.2) else (some v1.1)
def eG (N:Nat) (g0:af) (aI:(List (Str×ah))) (aC:(List (Str×ai))) (aF:(List (Str×Str))) (x0:(List Str)) (mZ:aG) (s1:Int):Option (Int ⊕ (Unit ⊕ Int)) :=
  bif (aV .lss s1 (List.length x0:Int)) then ((idx x0 s1).bind fun v2=>(kP N g0 aI aC aF v2 mZ).bind fun v3=>bif v3 then (some (.inr (Sum.inr s1))) else (some (.inl (IntKind.i64.wrap (s1+1))))) else (some (.inr (Sum.inl ())))
def fH (N:Nat) (g0:af) (aI:(List (Str×ah))) (aC:(List (Str×ai))) (aF:(List (Str×Str))) (x0:(List Str)) (mZ:aG):Option Int :=
  (dB (eG N g0 aI aC aF x0 mZ) N 0).bind fun o6=>Sum.elim (fun l8=>some (-1)) (fun r9=>some r9) o6
def eu (N:Nat) (g0:af) (aI:(List (Str×ah))) (aC:(List (Str×ai))) (aF:(List (Str×Str))) (mZ:aG) (s2:((List Str)×Int×Int)):Option (((List Str)×Int×Int) ⊕ ((List Str)×Int)) :=
  bif (aV .lss s2.2.2 (List.length s2.1:Int)) then ((idx s2.1 s2.2.2).bind fun v3=>(kP N g0 aI aC aF v3 mZ).bind fun v4=>bif (!v4) then ((idx s2.1 s2.2.1).bind fun v5=>some (.inl ((List.set s2.1 (Int.toNat s2.2.1) v3),(IntKind.i64.wrap (s2.2.1+1)),(IntKind.i64.wrap (s2.2.2+1))))) else (some (.inl (s2.1,s2.2.1,(IntKind.i64.wrap (s2.2.2+1)))))) else (some (.inr (s2.1,s2.2.1)))
def fC (N:Nat) (g0:af) (aI:(List (Str×ah))) (aC:(List (Str×ai))) (aF:(List (Str×Str))) (x0:(List Str)) (mZ:aG):Option (List Str) :=
  (fH N g0 aI aC aF x0 mZ).bind fun v1=>bif (aV .eql v1 (-1)) then (some x0) else ((dB (eu N g0 aI aC aF mZ) N (x0,v1,(IntKind.i64.wrap (v1+1)))).bind fun o8=>(OZ o8.1 o8.2 (List.length o8.1:Int)).bind fun v10=>(bif Nat.beq ((Int.toNat o8.2)+(Int.toNat (List.length o8.1:Int) - Int.toNat o8.2)) (List.length o8.1) then some (List.take (Int.toNat o8.2) o8.1 ++ List.replicate (Int.toNat (List.length o8.1:Int) - Int.toNat o8.2) []) else none).bind fun v11=>(OZ v11 0 o8.2).bind fun v12=>some v12)
def lC (N:Nat) (g0:af) (aI:(List (Str×ah))) (aC:(List (Str×ai))) (aF:(List (Str×Str))) (x1:aG):Option (List Str) :=
  (vK N g0.plan x1).bind fun v1=>(fC N g0 aI aC aF v1 x1).bind fun v2=>some v2
def jy (N:Nat) (g0:af) (aI:(List (Str×ah))) (aC:(List (Str×ai))) (aF:(List (Str×Str))) (x0:Str):Option Bool :=
  (dJ N g0 aI aC aF x0 [2]).bind fun v1=>some v1
def eF (N:Nat) (g0:af) (aI:(List (Str×ah))) (aC:(List (Str×ai))) (aF:(List (Str×Str))) (x0:(List Str)) (s1:Int):Option (Int ⊕ (Unit ⊕ Int)) :=
  bif (aV .lss s1 (List.length x0:Int)) then ((idx x0 s1).bind fun v2=>(jy N g0 aI aC aF v2).bind fun v3=>bif v3 then (some (.inr (Sum.inr s1))) else (some (.inl (IntKind.i64.wrap (s1+1))))) else (some (.inr (Sum.inl ())))
def fD (N:Nat) (g0:af) (aI:(List (Str×ah))) (aC:(List (Str×ai))) (aF:(List (Str×Str))) (x0:(List Str)):Option Int :=
  (dB (eF N g0 aI aC aF x0) N 0).bind fun o6=>Sum.elim (fun l8=>some (-1)) (fun r9=>some r9) o6
def dG (N:Nat) (g0:af) (aI:(List (Str×ah))) (aC:(List (Str×ai))) (aF:(List (Str×Str))) (s2:((List Str)×Int×Int)):Option (((List Str)×Int×Int) ⊕ ((List Str)×Int)) :=
  bif (aV .lss s2.2.2 (List.length s2.1:Int)) then ((idx s2.1 s2.2.2).bind fun v3=>(jy N g0 aI aC aF v3).bind fun v4=>bif (!v4) then ((idx s2.1 s2.2.1).bind fun v5=>some (.inl ((List.set s2.1 (Int.toNat s2.2.1) v3),(IntKind.i64.wrap (s2.2.1+1)),(IntKind.i64.wrap (s2.2.2+1))))) else (some (.inl (s2.1,s2.2.1,(IntKind.i64.wrap (s2.2.2+1)))))) else (some (.inr (s2.1,s2.2.1)))
def gJ (N:Nat) (g0:af) (aI:(List (Str×ah))) (aC:(List (Str×ai))) (aF:(List (Str×Str))) (x0:(List Str)):Option (List Str) :=
  (fD N g0 aI aC aF x0).bind fun v1=>bif (aV .eql v1 (-1)) then (some x0) else ((dB (dG N g0 aI aC aF) N (x0,v1,(IntKind.i64.wrap (v1+1)))).bind fun o8=>(OZ o8.1 o8.2 (List.length o8.1:Int)).bind fun v10=>(bif Nat.beq ((Int.toNat o8.2)+(Int.toNat (List.length o8.1:Int) - Int.toNat o8.2)) (List.length o8.1) then some (List.take (Int.toNat o8.2) o8.1 ++ List.replicate (Int.toNat (List.length o8.1:Int) - Int.toNat o8.2) []) else none).bind fun v11=>(OZ v11 0 o8.2).bind fun v12=>some v12)
def jU (N:Nat) (g0:af) (aI:(List (Str×ah))) (aC:(List (Str×ai))) (aF:(List (Str×Str))) (x1:aG):Option (List Str) :=
  (fJ N x1.Locks).bind fun v1=>(gJ N g0 aI aC aF v1).bind fun v2=>some v2
def jK (N:Nat) (g0:af) (aC:(List (Str×ai))) (aF:(List (Str×Str))) (s10:(Bool×Int×(List (Str×ah)))):Option ((Bool×Int×(List (Str×ah))) ⊕ (Bool×(List (Str×ah)))) :=
  bif (aV .lss s10.2.1 (List.length g0.plan.aB:Int)) then ((idx g0.plan.aB s10.2.1).bind fun v11=>(dJ N g0 s10.2.2 aC aF v11.Name [2]).bind fun v12=>(bif v12 then (lC N g0 s10.2.2 aC aF v11) else some []).bind fun v13=>(bif (v12&&(!(aV .gtr (List.length v13:Int) 0))) then (jU N g0 s10.2.2 aC aF v11) else some []).bind fun v14=>bif (v12&&((aV .gtr (List.length v13:Int) 0)||(aV .gtr (List.length v14:Int) 0))) then ((dP N g0 s10.2.2 aC aF v11.Name 3).bind fun v15=>some (.inl (true,(IntKind.i64.wrap (s10.2.1+1)),v15))) else (some (.inl (s10.1,(IntKind.i64.wrap (s10.2.1+1)),s10.2.2)))) else (some (.inr (s10.1,s10.2.2)))
def kN (N:Nat) (g0:af) (aC:(List (Str×ai))) (aF:(List (Str×Str))) (s9:(Bool×(List (Str×ah)))):Option ((Bool×(List (Str×ah))) ⊕ (List (Str×ah))) :=
  bif s9.1 then ((dB (jK N g0 aC aF) N (false,0,s9.2)).bind fun WL=>some (.inl (WL.1,WL.2))) else (some (.inr s9.2))
def kM (N:Nat) (g0:af) (aC:(List (Str×ai))) (aF:(List (Str×Str))) (s1:(Int×(List (Str×ah)))):Option ((Int×(List (Str×ah))) ⊕ (List (Str×ah))) :=
  bif (aV .lss s1.1 (List.length g0.plan.aB:Int)) then ((idx g0.plan.aB s1.1).bind fun v2=>(dJ N g0 s1.2 aC aF v2.Name [0,1,2,3]).bind fun v3=>bif (v3&&(aV .leq ((iC (⟨0,[],0⟩:ah) s1.2 v2.Name).Ap) g0.now)) then ((dP N g0 s1.2 aC aF v2.Name 6).bind fun v4=>some (.inl ((IntKind.i64.wrap (s1.1+1)),v4))) else (some (.inl ((IntKind.i64.wrap (s1.1+1)),s1.2)))) else (some (.inr s1.2))
def jL (N:Nat) (g0:af) (aI:(List (Str×ah))) (aC:(List (Str×ai))) (aF:(List (Str×Str))):Option (List (Str×ah)) :=
  (dB (kM N g0 aC aF) N (0,aI)).bind fun o7=>(dB (kN N g0 aC aF) N (true,o7)).bind fun o22=>some o22
def nH (N:Nat) (x0:GPermitPlan) (s7:(Int×(List (Str×ah)))):Option ((Int×(List (Str×ah))) ⊕ (List (Str×ah))) :=
  bif (aV .lss s7.1 (List.length x0.aB:Int)) then ((idx x0.aB s7.1).bind fun v8=>some (.inl ((IntKind.i64.wrap (s7.1+1)),(oZ s7.2 v8.Name (⟨0,[],v8.To⟩:ah))))) else (some (.inr s7.2))
def qX (N:Nat) (x0:GPermitPlan):Option ((Option (af×(List (Str×ah))×(List (Str×ai))×(List (Str×Str))))×(Int)) :=
  (nT N x0).bind fun v1=>bif (aV .neq v1 0) then (some (none,v1)) else ((uM N x0).bind fun v2=>(dB (nH N x0) N (0,([]:(List (Str×ah))))).bind fun WC=>(jL N (⟨v2,0,[]⟩:af) WC ([]:(List (Str×ai))) ([]:(List (Str×Str)))).bind fun v12=>some ((some ((⟨v2,0,[]⟩:af),v12,([]:(List (Str×ai))),([]:(List (Str×Str))))),0))
def ug (N:Nat):Option ((List bn)) :=
  some [(⟨([116,105,99,107]:Str),([]:Str),([]:(List Int)),(some 95)⟩:bn),(⟨([97,112,112,114,111,118,101]:Str),([110,112]:Str),[0],(some 96)⟩:bn),(⟨([111,112,101,110]:Str),([110,112]:Str),[1],(some 97)⟩:bn),(⟨([115,117,115,112,101,110,100]:Str),([110]:Str),[2],(some 98)⟩:bn),(⟨([114,101,115,117,109,101]:Str),([110,112]:Str),[3],(some 97)⟩:bn),(⟨([99,108,111,115,101]:Str),([110]:Str),[2,3],(some 99)⟩:bn),(⟨([99,97,110,99,101,108]:Str),([110]:Str),[0,1],(some 100)⟩:bn),(⟨([103,97,115]:Str),([115,111,103]:Str),([]:(List Int)),(some 101)⟩:bn),(⟨([101,110,116,101,114]:Str),([112,115]:Str),([]:(List Int)),(some 102)⟩:bn),(⟨([108,101,97,118,101]:Str),([112]:Str),([]:(List Int)),(some 103)⟩:bn),(⟨([97,108,97,114,109]:Str),([115]:Str),([]:(List Int)),(some 104)⟩:bn),(⟨([101,120,116,101,110,100]:Str),([110,112,116]:Str),[1,2,3],(some 105)⟩:bn)]
def sJ (N:Nat) (x0:Int):Option (Bool) :=
  some ((aV .geq x0 0)&&(aV .leq x0 1000000))
def uF (N:Nat) (g0:af) (aI:(List (Str×ah))) (aC:(List (Str×ai))) (aF:(List (Str×Str))) (x1:GEvent):Option aj :=
  some (⟨[],0⟩:aj)
def jm (N:Nat) (x0:Int) (x1:(List Str)):Option (aj) :=
  some (⟨x1,x0⟩:aj)
def ni (N:Nat) (g0:af) (aI:(List (Str×ah))) (aC:(List (Str×ai))) (aF:(List (Str×Str))) (x1:GEvent):Option ((List (Str×ah))×aj) :=
  (nM N x1.Person).bind fun v1=>bif (!v1) then ((jm N 4 ([]:(List Str))).bind fun v2=>some (aI,v2)) else (some ((oZ aI x1.Name ({ ({ (iC (⟨0,[],0⟩:ah) aI x1.Name) with state:=1 }:ah) with Gi:=x1.Person }:ah)),(⟨[],0⟩:aj)))
def pI (N:Nat) (g0:af) (aI:(List (Str×ah))) (aC:(List (Str×ai))) (aF:(List (Str×Str))) (x1:aG):Option aG :=
  some x1
def lu (N:Nat) (g0:af) (aI:(List (Str×ah))) (aC:(List (Str×ai))) (aF:(List (Str×Str))) (x0:aG) (c1:aG):Option Bool :=
  (oU N g0.plan x0 c1).bind fun v1=>some v1
def fZ (N:Nat) (g0:af) (aI:(List (Str×ah))) (aC:(List (Str×ai))) (aF:(List (Str×Str))) (mZ:aG) (s1:((List Str)×Int)):Option (((List Str)×Int) ⊕ (List Str)) :=
  bif (aV .lss s1.2 (List.length g0.plan.aB:Int)) then ((idx g0.plan.aB s1.2).bind fun v2=>(dJ N g0 aI aC aF v2.Name [2]).bind fun v3=>(bif v3 then (lu N g0 aI aC aF v2 mZ) else some false).bind fun v4=>bif (v3&&v4) then ((app s1.1 [v2.Name]).bind fun v5=>some (.inl (v5,(IntKind.i64.wrap (s1.2+1))))) else (some (.inl (s1.1,(IntKind.i64.wrap (s1.2+1)))))) else (some (.inr s1.1))
def iP (N:Nat) (g0:af) (aI:(List (Str×ah))) (aC:(List (Str×ai))) (aF:(List (Str×Str))) (mZ:aG):Option (List Str) :=
  (dB (fZ N g0 aI aC aF mZ) N ([],0)).bind fun o8=>some o8
def lX (N:Nat) (g0:af) (aI:(List (Str×ah))) (aC:(List (Str×ai))) (x0:Str) (c1:aG):Option Bool :=
  (qm N g0.plan x0 c1.Space).bind fun v1=>some (aV .leq v1 1)
def lW (N:Nat) (x0:(List Str)):Option ((List Str)):=L6 x0
def gK (N:Nat) (g0:af) (aI:(List (Str×ah))) (aC:(List (Str×ai))) (mZ:aG) (s2:(List Str)) (p3:(Str×Str)):Option (List Str) :=
  (lX N g0 aI aC p3.2 mZ).bind fun v5=>bif v5 then ((app s2 [p3.1]).bind fun v6=>some v6) else (some s2)
def iD (N:Nat) (g0:af) (aI:(List (Str×ah))) (aC:(List (Str×ai))) (aF:(List (Str×Str))) (mZ:aG):Option (List Str) :=
  FI aF fun q4p=>(Hf (gK N g0 aI aC mZ) q4p []).bind fun s2=>(lW N s2).bind fun v8=>some v8
def fM {S:Type} (N:Nat) (Y:S→bW→Option (S×Bool)) (o8:(List bW)) (s10:(Int×S)):Option ((Int×S) ⊕ (S ⊕ S)) :=
  bif (aV .lss s10.1 (List.length o8:Int)) then ((idx o8 s10.1).bind fun v11=>(bif (aV .gtr (List.length v11.Names:Int) 0) then (Y s10.2 v11) else some (s10.2,false)).bind fun v12=>bif ((aV .gtr (List.length v11.Names:Int) 0)&&(!v12.2)) then (some (.inr (Sum.inr v12.1))) else (some (.inl ((IntKind.i64.wrap (s10.1+1)),v12.1)))) else (some (.inr (Sum.inl s10.2)))
def jM {S:Type} (N:Nat) (Y:S→bW→Option (S×Bool)) (y0:S) (g0:af) (aI:(List (Str×ah))) (aC:(List (Str×ai))) (aF:(List (Str×Str))) (c1:aG):Option S :=
  (bif (aV .lss g0.now c1.From) then (Y y0 (⟨2,[]⟩:bW)) else some (y0,false)).bind fun v1=>bif ((aV .lss g0.now c1.From)&&(!v1.2)) then (some v1.1) else ((jU N g0 aI aC aF c1).bind fun v2=>(iP N g0 aI aC aF c1).bind fun v3=>(lC N g0 aI aC aF c1).bind fun v4=>((bif (aV .eql c1.Kind 3) then ((iD N g0 aI aC aF c1).bind fun v5=>(app [(⟨18,v2⟩:bW),(⟨20,v3⟩:bW),(⟨21,v4⟩:bW)] [(⟨17,v5⟩:bW)]).bind fun v6=>some v6) else (some [(⟨18,v2⟩:bW),(⟨20,v3⟩:bW),(⟨21,v4⟩:bW)])):Option (List bW)).bind fun o8=>(dB (fM N Y o8) N (0,v1.1)).bind fun NY=>Sum.elim (fun l17=>some l17) (fun Ul=>some Ul) NY)
def iK (N:Nat) (s7:aj) (i8:bW):Option (aj×Option Nat) :=
  (jm N i8.Err i8.Names).bind fun v12=>some (v12,some 0)
def lZ (N:Nat) (g0:af) (aI:(List (Str×ah))) (aC:(List (Str×ai))) (aF:(List (Str×Str))) (x1:GEvent):Option ((List (Str×ah))×aj) :=
  (nM N x1.Person).bind fun v1=>bif (!v1) then ((jm N 4 ([]:(List Str))).bind fun v2=>some (aI,v2)) else (bif (xM .eql x1.Person ((iC (⟨0,[],0⟩:ah) aI x1.Name).Gi)) then ((jm N 26 ([]:(List Str))).bind fun v3=>some (aI,v3)) else ((jO N g0.plan x1.Name).bind fun v4=>(pI N g0 aI aC aF v4.1).bind fun v5=>(jM N (yl (iK N) 1) ((⟨[],0⟩:aj),none) g0 aI aC aF v5).bind fun Wp=>G7 Wp (fun Ol=>(dP N g0 aI aC aF x1.Name 2).bind fun v14=>some (v14,(⟨[],0⟩:aj))) (fun Ol=>some (aI,Ol))))
def rE (N:Nat) (g0:af) (aI:(List (Str×ah))) (aC:(List (Str×ai))) (aF:(List (Str×Str))) (x1:GEvent):Option ((List (Str×ah))×aj) :=
  (dP N g0 aI aC aF x1.Name 3).bind fun v1=>some (v1,(⟨[],0⟩:aj))
def jf (N:Nat) (x0:aG) (c0:aG):Option (Bool) :=
  (eY N x0.Locks c0.Name).bind fun v1=>some v1
def jB (N:Nat) (g0:af) (aI:(List (Str×ah))) (aC:(List (Str×ai))) (aF:(List (Str×Str))) (x1:(aG→Option Bool)) (s1:((List Str)×Int)):Option (((List Str)×Int) ⊕ (List Str)) :=
  bif (aV .lss s1.2 (List.length g0.plan.aB:Int)) then ((idx g0.plan.aB s1.2).bind fun v2=>(dJ N g0 aI aC aF v2.Name [2]).bind fun v3=>(bif v3 then (x1 v2) else some false).bind fun v4=>bif (v3&&v4) then ((app s1.1 [v2.Name]).bind fun v5=>some (.inl (v5,(IntKind.i64.wrap (s1.2+1))))) else (some (.inl (s1.1,(IntKind.i64.wrap (s1.2+1)))))) else (some (.inr s1.1))
def fO (N:Nat) (g0:af) (aI:(List (Str×ah))) (aC:(List (Str×ai))) (aF:(List (Str×Str))) (x1:(aG→Option Bool)):Option (List Str) :=
  (dB (jB N g0 aI aC aF x1) N ([],0)).bind fun o8=>some o8
def jg (N:Nat) (x0:aG) (c0:aG):Option (Bool) :=
  some (((aV .eql x0.Kind 1)&&(xM .eql x0.Space c0.Space))&&(xM .neq x0.Name c0.Name))
def jh (N:Nat) (x0:Str) (c0:aG):Option (Bool) :=
  some (xM .eql x0 c0.Space)
def lJ (N:Nat) (x1:(Str→Option Bool)) (s2:(List Str)) (p3:(Str×Str)):Option (List Str) :=
  (x1 p3.2).bind fun v5=>bif v5 then ((app s2 [p3.1]).bind fun v6=>some v6) else (some s2)
def jZ (N:Nat) (g0:af) (aI:(List (Str×ah))) (aC:(List (Str×ai))) (aF:(List (Str×Str))) (x1:(Str→Option Bool)):Option (List Str) :=
  FI aF fun q4p=>(Hf (lJ N x1) q4p []).bind fun s2=>(lW N s2).bind fun v8=>some v8
def lN (N:Nat) (g0:af) (aI:(List (Str×ah))) (aC:(List (Str×ai))) (aF:(List (Str×Str))) (x1:GEvent):Option ((List (Str×ah))×aj) :=
  (jO N g0.plan x1.Name).bind fun v1=>(iY N g0.plan v1.1.Space).bind fun v2=>((bif (aV .eql v1.1.Kind 5) then ((fO N g0 aI aC aF (fun y0=>jf N y0 v1.1)).bind fun v3=>bif (aV .gtr (List.length v3:Int) 0) then ((jm N 20 v3).bind fun v4=>some (Sum.inr v4)) else (some (Sum.inl (⟨[],0⟩:aj)))) else ((bif (aV .eql v1.1.Kind 1) then (dJ N g0 aI aC aF v1.1.Name [2]) else some false).bind fun v6=>bif (((aV .eql v1.1.Kind 1)&&v6)&&v2.1.dX) then ((fO N g0 aI aC aF (fun y0=>jg N y0 v1.1)).bind fun v7=>(jZ N g0 aI aC aF (fun y0=>jh N y0 v1.1)).bind fun v8=>bif ((aV .eql (List.length v7:Int) 0)&&(aV .gtr (List.length v8:Int) 0)) then ((jm N 21 v8).bind fun v9=>some (Sum.inr v9)) else (some (Sum.inl (⟨[],0⟩:aj)))) else (some (Sum.inl (⟨[],0⟩:aj))))):Option (aj ⊕ aj)).bind fun Wp=>Sum.elim (fun l15=>(dP N g0 aI aC aF x1.Name 4).bind fun v17=>some (v17,(⟨[],0⟩:aj))) (fun r16=>some (aI,r16)) Wp
def sG (N:Nat) (g0:af) (aI:(List (Str×ah))) (aC:(List (Str×ai))) (aF:(List (Str×Str))) (x1:GEvent):Option ((List (Str×ah))×aj) :=
  (dP N g0 aI aC aF x1.Name 5).bind fun v1=>some (v1,(⟨[],0⟩:aj))
def pM (N:Nat) (g0:af) (aI:(List (Str×ah))) (aC:(List (Str×ai))) (aF:(List (Str×Str))) (x1:GEvent):Option ((List (Str×ai))×aj) :=
  (iY N g0.plan x1.Space).bind fun v1=>bif (!v1.2) then ((jm N 6 ([]:(List Str))).bind fun v2=>some (aC,v2)) else (bif ((((aV .lss x1.vH 0)||(aV .gtr x1.vH 1000))||(aV .lss x1.Ot 0))||(aV .gtr x1.Ot 1000)) then ((jm N 2 ([]:(List Str))).bind fun v3=>some (aC,v3)) else (some ((oZ aC x1.Space (⟨g0.now,x1.vH,x1.Ot⟩:ai)),(⟨[],0⟩:aj))))
def kK (N:Nat) (x0:aG) (c0:Str):Option (Bool) :=
  some ((aV .eql x0.Kind 1)&&(xM .eql x0.Space c0))
def nJ (N:Nat) (g0:af) (aI:(List (Str×ah))) (aC:(List (Str×ai))) (aF:(List (Str×Str))) (x1:Str):Option Bool :=
  (fO N g0 aI aC aF (fun y0=>kK N y0 x1)).bind fun v1=>some (aV .gtr (List.length v1:Int) 0)
def mY (N:Nat) (g0:af) (aI:(List (Str×ah))) (aC:(List (Str×ai))) (aF:(List (Str×Str))) (x0:aG) (c1:dm):Option Bool :=
  (bif (aV .eql x0.Kind 3) then (qm N g0.plan x0.Space c1.Name) else some 0).bind fun v1=>some ((aV .eql x0.Kind 3)&&(aV .leq v1 1))
def gV (N:Nat) (g0:af) (aI:(List (Str×ah))) (aC:(List (Str×ai))) (aF:(List (Str×Str))) (mZ:dm) (s1:((List Str)×Int)):Option (((List Str)×Int) ⊕ (List Str)) :=
  bif (aV .lss s1.2 (List.length g0.plan.aB:Int)) then ((idx g0.plan.aB s1.2).bind fun v2=>(dJ N g0 aI aC aF v2.Name [2]).bind fun v3=>(bif v3 then (mY N g0 aI aC aF v2 mZ) else some false).bind fun v4=>bif (v3&&v4) then ((app s1.1 [v2.Name]).bind fun v5=>some (.inl (v5,(IntKind.i64.wrap (s1.2+1))))) else (some (.inl (s1.1,(IntKind.i64.wrap (s1.2+1)))))) else (some (.inr s1.1))
def jr (N:Nat) (g0:af) (aI:(List (Str×ah))) (aC:(List (Str×ai))) (aF:(List (Str×Str))) (mZ:dm):Option (List Str) :=
  (dB (gV N g0 aI aC aF mZ) N ([],0)).bind fun o8=>some o8
def og (N:Nat) (g0:af) (aI:(List (Str×ah))) (aC:(List (Str×ai))) (aF:(List (Str×Str))) (x1:GEvent):Option ((List (Str×Str))×aj) :=
  (nM N x1.Person).bind fun v1=>bif (!v1) then ((jm N 4 ([]:(List Str))).bind fun v2=>some (aF,v2)) else ((iY N g0.plan x1.Space).bind fun v3=>bif (!v3.2) then ((jm N 6 ([]:(List Str))).bind fun v4=>some (aF,v4)) else (bif (mJ aF x1.Person) then ((jm N 18 ([]:(List Str))).bind fun v5=>some (aF,v5)) else ((bif v3.1.dX then (nJ N g0 aI aC aF v3.1.Name) else some false).bind fun v6=>bif (v3.1.dX&&(!v6)) then ((jm N 21 ([]:(List Str))).bind fun v7=>some (aF,v7)) else ((jr N g0 aI aC aF v3.1).bind fun v8=>bif (aV .gtr (List.length v8:Int) 0) then ((jm N 17 v8).bind fun v9=>some (aF,v9)) else (some ((oZ aF x1.Person v3.1.Name),(⟨[],0⟩:aj)))))))
def oh (N:Nat) (g0:af) (aI:(List (Str×ah))) (aC:(List (Str×ai))) (aF:(List (Str×Str))) (x1:GEvent):Option ((List (Str×Str))×aj) :=
  (nM N x1.Person).bind fun v1=>bif (!v1) then ((jm N 4 ([]:(List Str))).bind fun v2=>some (aF,v2)) else (bif (!(mJ aF x1.Person)) then ((jm N 6 ([]:(List Str))).bind fun v3=>some (aF,v3)) else (some ((D8 aF x1.Person),(⟨[],0⟩:aj))))
def ng (N:Nat) (g0:af) (aI:(List (Str×ah))) (aC:(List (Str×ai))) (aF:(List (Str×Str))) (x0:aG) (c1:GEvent):Option Bool :=
  (bif (aV .neq x0.Kind 5) then (qm N g0.plan x0.Space c1.Space) else some 0).bind fun v1=>some ((aV .neq x0.Kind 5)&&(aV .leq v1 1))
def gW (N:Nat) (g0:af) (aI:(List (Str×ah))) (aC:(List (Str×ai))) (aF:(List (Str×Str))) (mZ:GEvent) (s1:((List Str)×Int)):Option (((List Str)×Int) ⊕ (List Str)) :=
  bif (aV .lss s1.2 (List.length g0.plan.aB:Int)) then ((idx g0.plan.aB s1.2).bind fun v2=>(dJ N g0 aI aC aF v2.Name [2]).bind fun v3=>(bif v3 then (ng N g0 aI aC aF v2 mZ) else some false).bind fun v4=>bif (v3&&v4) then ((app s1.1 [v2.Name]).bind fun v5=>some (.inl (v5,(IntKind.i64.wrap (s1.2+1))))) else (some (.inl (s1.1,(IntKind.i64.wrap (s1.2+1)))))) else (some (.inr s1.1))
def jv (N:Nat) (g0:af) (aI:(List (Str×ah))) (aC:(List (Str×ai))) (aF:(List (Str×Str))) (mZ:GEvent):Option (List Str) :=
  (dB (gW N g0 aI aC aF mZ) N ([],0)).bind fun o8=>some o8
def jT (N:Nat) (g0:af) (aC:(List (Str×ai))) (aF:(List (Str×Str))) (v3:(List Str)) (s4:(Int×(List (Str×ah)))):Option ((Int×(List (Str×ah))) ⊕ (List (Str×ah))) :=
  bif (aV .lss s4.1 (List.length v3:Int)) then ((idx v3 s4.1).bind fun v5=>(dP N g0 s4.2 aC aF v5 3).bind fun v6=>some (.inl ((IntKind.i64.wrap (s4.1+1)),v6))) else (some (.inr s4.2))
def oq (N:Nat) (g0:af) (aI:(List (Str×ah))) (aC:(List (Str×ai))) (aF:(List (Str×Str))) (x1:GEvent):Option ((List (Str×ah))×aj) :=
  (iY N g0.plan x1.Space).bind fun v1=>bif (!v1.2) then ((jm N 6 ([]:(List Str))).bind fun v2=>some (aI,v2)) else ((jv N g0 aI aC aF x1).bind fun v3=>(dB (jT N g0 aC aF v3) N (0,aI)).bind fun o8=>some (o8,(⟨[],0⟩:aj)))
def nK (N:Nat) (g0:af) (aI:(List (Str×ah))) (aC:(List (Str×ai))) (aF:(List (Str×Str))) (x1:GEvent):Option ((List (Str×ah))×aj) :=
  (nM N x1.Person).bind fun v1=>bif (!v1) then ((jm N 4 ([]:(List Str))).bind fun v2=>some (aI,v2)) else (bif ((aV .leq x1.To ((iC (⟨0,[],0⟩:ah) aI x1.Name).Ap))||(aV .gtr x1.To 1000000)) then ((jm N 2 ([]:(List Str))).bind fun v3=>some (aI,v3)) else (some ((oZ aI x1.Name ({ (iC (⟨0,[],0⟩:ah) aI x1.Name) with Ap:=x1.To }:ah)),(⟨[],0⟩:aj))))
def CW (N:Nat) (g0:af) (aI:(List (Str×ah))) (aC:(List (Str×ai))) (aF:(List (Str×Str))) (n:(Option Nat)) (x1:GEvent):Option ((List (Str×ah))×(List (Str×ai))×(List (Str×Str))×aj) :=
  bif decide (n=some 95) then ((uF N g0 aI aC aF x1).bind fun y=>some (aI,aC,aF,y)) else (bif decide (n=some 96) then ((ni N g0 aI aC aF x1).bind fun y=>some (y.1,aC,aF,y.2)) else (bif decide (n=some 97) then ((lZ N g0 aI aC aF x1).bind fun y=>some (y.1,aC,aF,y.2)) else (bif decide (n=some 98) then ((rE N g0 aI aC aF x1).bind fun y=>some (y.1,aC,aF,y.2)) else (bif decide (n=some 99) then ((lN N g0 aI aC aF x1).bind fun y=>some (y.1,aC,aF,y.2)) else (bif decide (n=some 100) then ((sG N g0 aI aC aF x1).bind fun y=>some (y.1,aC,aF,y.2)) else (bif decide (n=some 101) then ((pM N g0 aI aC aF x1).bind fun y=>some (aI,y.1,aF,y.2)) else (bif decide (n=some 102) then ((og N g0 aI aC aF x1).bind fun y=>some (aI,aC,y.1,y.2)) else (bif decide (n=some 103) then ((oh N g0 aI aC aF x1).bind fun y=>some (aI,aC,y.1,y.2)) else (bif decide (n=some 104) then ((oq N g0 aI aC aF x1).bind fun y=>some (y.1,aC,aF,y.2)) else (bif decide (n=some 105) then ((nK N g0 aI aC aF x1).bind fun y=>some (y.1,aC,aF,y.2)) else (none)))))))))))
def kF (N:Nat) (g0:af) (aI:(List (Str×ah))) (aC:(List (Str×ai))) (aF:(List (Str×Str))) (x1:GEvent):Option (af×(List (Str×ah))×(List (Str×ai))×(List (Str×Str))×(List Str)×Int) :=
  (ug N).bind fun v1=>(bif (!((aV .lss x1.Op 0)||(aV .geq x1.Op (List.length v1:Int)))) then (sJ N x1.At) else some false).bind fun v2=>bif (((aV .lss x1.Op 0)||(aV .geq x1.Op (List.length v1:Int)))||(!v2)) then (some (g0,aI,aC,aF,[],2)) else (bif (aV .lss x1.At g0.now) then (some (g0,aI,aC,aF,[],10)) else ((jL N ({ g0 with now:=x1.At }:af) aI aC aF).bind fun v3=>(idx v1 x1.Op).bind fun v4=>((bif (!(List.isEmpty v4.states)) then ((jO N (({ g0 with now:=x1.At }:af).plan) x1.Name).bind fun v5=>bif (!v5.2) then (some (Sum.inr ([],6))) else ((dJ N ({ g0 with now:=x1.At }:af) v3 aC aF x1.Name v4.states).bind fun v6=>bif (!v6) then (some (Sum.inr ([],18))) else (some (Sum.inl ())))) else (some (Sum.inl ()))):Option (Unit ⊕ ((List Str)×Int))).bind fun WC=>Sum.elim (fun l12=>(CW N ({ g0 with now:=x1.At }:af) v3 aC aF v4.Lm x1).bind fun v14=>bif (aV .neq v14.2.2.2.e 0) then (some (({ g0 with now:=x1.At }:af),v14.1,v14.2.1,v14.2.2.1,v14.2.2.2.names,v14.2.2.2.e)) else ((jL N ({ g0 with now:=x1.At }:af) v14.1 v14.2.1 v14.2.2.1).bind fun v15=>(app (({ g0 with now:=x1.At }:af).done) [x1]).bind fun v16=>some (({ ({ g0 with now:=x1.At }:af) with done:=v16 }:af),v15,v14.2.1,v14.2.2.1,[],0))) (fun r13=>some (({ g0 with now:=x1.At }:af),v3,aC,aF,r13.1,r13.2)) WC))
def jd (N:Nat) (x0:aG):Option (Bool) :=
  some true
def je (N:Nat) (g0:af) (aI:(List (Str×ah))) (aC:(List (Str×ai))) (aF:(List (Str×Str))):Option (List Str) :=
  (fO N g0 aI aC aF (fun y0=>jd N y0)).bind fun v1=>some v1
def qI (N:Nat) (x0:aG) (c0:Str):Option (Bool) :=
  some (xM .eql x0.Name c0)
def jG (N:Nat) (x0:(List aG)) (x1:(aG→Option Bool)):Option (Bool) :=
  (gX N x0 x1).bind fun v1=>some (aV .geq v1 0)
def nZ (N:Nat) (x1:(List aG)) (v2:aG) (s13:Int):Option (Int ⊕ (Unit ⊕ Bool)) :=
  bif (aV .lss s13 (List.length v2.Locks:Int)) then ((idx v2.Locks s13).bind fun v14=>(jG N x1 (fun y0=>qI N y0 v14)).bind fun v15=>bif (!v15) then (some (.inr (Sum.inr false))) else (some (.inl (IntKind.i64.wrap (s13+1))))) else (some (.inr (Sum.inl ())))
def nY (N:Nat) (x0:GPermitPlan) (v2:aG) (v3:(List aG)) (s4:Int):Option (Int ⊕ (Unit ⊕ Bool)) :=
  bif (aV .lss s4 (List.length v3:Int)) then ((idx v3 s4).bind fun v5=>(oU N x0 v2 v5).bind fun v6=>bif v6 then (some (.inr (Sum.inr false))) else (some (.inl (IntKind.i64.wrap (s4+1))))) else (some (.inr (Sum.inl ())))
def nX (N:Nat) (x0:GPermitPlan) (x1:(List aG)) (s1:Int):Option (Int ⊕ (Unit ⊕ Bool)) :=
  bif (aV .lss s1 (List.length x1:Int)) then ((idx x1 s1).bind fun v2=>(OZ x1 0 s1).bind fun v3=>(dB (nY N x0 v2 v3) N 0).bind fun o9=>Sum.elim (fun l11=>(dB (nZ N x1 v2) N 0).bind fun WL=>Sum.elim (fun l20=>some (.inl (IntKind.i64.wrap (s1+1)))) (fun r21=>some (.inr (Sum.inr r21))) WL) (fun r12=>some (.inr (Sum.inr r12))) o9) else (some (.inr (Sum.inl ())))
def rP (N:Nat) (x0:GPermitPlan) (x1:(List aG)):Option (Bool) :=
  (dB (nX N x0 x1) N 0).bind fun WJ=>Sum.elim (fun l27=>some true) (fun r28=>some r28) WJ
def mM (N:Nat) (x0:GPermitPlan) (x1:(List Str)) (s2:((List aG)×Int)):Option (((List aG)×Int) ⊕ ((List aG) ⊕ (Bool×Int))) :=
  bif (aV .lss s2.2 (List.length x1:Int)) then ((idx x1 s2.2).bind fun v3=>(jO N x0 v3).bind fun v4=>bif (!v4.2) then (some (.inr (Sum.inr (false,6)))) else ((OZ x1 0 s2.2).bind fun v5=>(eY N v5 v3).bind fun v6=>bif v6 then (some (.inr (Sum.inr (false,5)))) else ((app s2.1 [v4.1]).bind fun v7=>some (.inl (v7,(IntKind.i64.wrap (s2.2+1))))))) else (some (.inr (Sum.inl s2.1)))
def nD (N:Nat) (x0:GPermitPlan) (x1:(List Str)):Option (Bool×Int) :=
  (nT N x0).bind fun v1=>bif (aV .neq v1 0) then (some (false,v1)) else ((dB (mM N x0 x1) N ([],0)).bind fun WM=>Sum.elim (fun l13=>(rP N x0 l13).bind fun v15=>some (v15,0)) (fun r14=>some (r14.1,r14.2)) WM)
def iV (N:Nat) (x0:(List GEvent)):Option ((List GEvent)) :=
  (app ([]:(List GEvent)) x0).bind fun v1=>some v1
def kJ (N:Nat) (g0:af) (aI:(List (Str×ah))) (aC:(List (Str×ai))) (aF:(List (Str×Str))):Option (List GEvent) :=
  (iV N g0.done).bind fun v1=>some v1
def tK (N:Nat) (x0:(Option (af×Value×Value×Value))):Option ((Option (af×(List (Str×ah))×(List (Str×ai))×(List (Str×Str))))×Unit) :=
  none
def uz (N:Nat) (x0:(Option (af×Value×Value×Value))) (x1:GEvent):Option ((List Str)×Int) :=
  (ug N).bind fun v1=>bif (Option.isNone x0) then (some ([],1)) else ((bif (!((aV .lss x1.Op 0)||(aV .geq x1.Op (List.length v1:Int)))) then (sJ N x1.At) else some false).bind fun v2=>bif (((aV .lss x1.Op 0)||(aV .geq x1.Op (List.length v1:Int)))||(!v2)) then (some ([],2)) else (none))
def kU (N:Nat) (g0:af) (aI:(List (Str×ah))) (aC:(List (Str×ai))) (aF:(List (Str×Str))):Option ((Option (af×(List (Str×ah))×(List (Str×ai))×(List (Str×Str))))×Unit) :=
  (iV N g0.done).bind fun v6=>some ((some (({ g0 with done:=v6 }:af),aI,aC,aF)),())
def vG (N:Nat) (x1:(List GEvent)) (s2:Int):Option (Int ⊕ (Unit ⊕ ((Option (af×(List (Str×ah))×(List (Str×ai))×(List (Str×Str))))×(Int×Int)))) :=
  bif (aV .lss s2 (List.length x1:Int)) then ((idx x1 s2).bind fun v3=>(tK N (none:(Option (af×Value×Value×Value)))).bind fun v4=>Aa v4 (fun v4e=>(uz N (none:(Option (af×Value×Value×Value))) v3).bind fun v5=>bif (aV .neq v5.2 0) then (some (.inr (Sum.inr (none,(s2,v5.2))))) else (some (.inl (IntKind.i64.wrap (s2+1))))) (fun Bc v4e=>(uz N (none:(Option (af×Value×Value×Value))) v3).bind fun v12=>bif (aV .neq v12.2 0) then (some (.inr (Sum.inr ((some (Bc.1,Bc.2.1,Bc.2.2.1,Bc.2.2.2)),(s2,v12.2))))) else (some (.inl (IntKind.i64.wrap (s2+1)))))) else (some (.inr (Sum.inl ())))
def jl (N:Nat) (x1:(List GEvent)) (s26:(Int×af×(List (Str×ah))×(List (Str×ai))×(List (Str×Str)))):Option ((Int×af×(List (Str×ah))×(List (Str×ai))×(List (Str×Str))) ⊕ ((af×(List (Str×ah))×(List (Str×ai))×(List (Str×Str))) ⊕ ((Option (af×(List (Str×ah))×(List (Str×ai))×(List (Str×Str))))×(Int×Int)))) :=
  bif (aV .lss s26.1 (List.length x1:Int)) then ((idx x1 s26.1).bind fun v27=>(kU N s26.2.1 s26.2.2.1 s26.2.2.2.1 s26.2.2.2.2).bind fun v28=>Aa v28 (fun v28e=>(kF N s26.2.1 s26.2.2.1 s26.2.2.2.1 s26.2.2.2.2 v27).bind fun v29=>bif (aV .neq v29.2.2.2.2.2 0) then (some (.inr (Sum.inr (none,(s26.1,v29.2.2.2.2.2))))) else (some (.inl ((IntKind.i64.wrap (s26.1+1)),v29.1,v29.2.1,v29.2.2.1,v29.2.2.2.1)))) (fun sF v28e=>(kF N s26.2.1 s26.2.2.1 s26.2.2.2.1 s26.2.2.2.2 v27).bind fun v36=>bif (aV .neq v36.2.2.2.2.2 0) then (some (.inr (Sum.inr ((some (sF.1,sF.2.1,sF.2.2.1,sF.2.2.2)),(s26.1,v36.2.2.2.2.2))))) else (some (.inl ((IntKind.i64.wrap (s26.1+1)),v36.1,v36.2.1,v36.2.2.1,v36.2.2.2.1))))) else (some (.inr (Sum.inl (s26.2.1,s26.2.2.1,s26.2.2.2.1,s26.2.2.2.2))))
def rQ (N:Nat) (x0:GPermitPlan) (x1:(List GEvent)):Option ((Option (af×(List (Str×ah))×(List (Str×ai))×(List (Str×Str))))×(Int×Int)) :=
  (qX N x0).bind fun v1=>Aa v1 (fun Fp=>bif (aV .neq Fp 0) then (some (none,(0,Fp))) else ((dB (vG N x1) N 0).bind fun NY=>Sum.elim (fun l17=>some (none,((List.length x1:Int),0))) (fun Ul=>some Ul) NY)) (fun yT Fp=>bif (aV .neq Fp 0) then (some (none,(0,Fp))) else ((dB (jl N x1) N (0,yT.1,yT.2.1,yT.2.2.1,yT.2.2.2)).bind fun o39=>Sum.elim (fun SS=>some ((some (SS.1,SS.2.1,SS.2.2.1,SS.2.2.2)),((List.length x1:Int),0))) (fun r42=>some r42) o39))
def zM (N:Nat) (x0:Int) (x1:Int):Option (Int) :=
  (Xh x0 x1).bind fun v1=>bif (aV .lss v1 0) then (some (IntKind.i64.wrap (v1+x1))) else (some v1)
def pK (N:Nat) (g0:af) (aI:(List (Str×ah))) (aC:(List (Str×ai))) (aF:(List (Str×Str))):Option Int :=
  some g0.now
def jk (N:Nat) (v33:(List Str)) (v36:Str) (v39:(List Str)) (Ut:Int) (SI:(Bool×Int)):Option ((Bool×Int) ⊕ Bool) :=
  bif (aV .lss SI.2 (List.length v33:Int)) then ((bif (!SI.1) then (idx v33 SI.2) else some []).bind fun v42=>(bif (!SI.1) then (idx v39 Ut) else some []).bind fun v43=>(bif ((!SI.1)&&(xM .eql v42 v43)) then (idx v33 SI.2) else some []).bind fun v44=>some (.inl ((SI.1||((xM .eql v42 v43)&&(xM .neq v44 v36))),(IntKind.i64.wrap (SI.2+1))))) else (some (.inr SI.1))
def jY (N:Nat) (v33:(List Str)) (v36:Str) (v39:(List Str)) (Ut:Int):Option (Int ⊕ (Unit ⊕ Bool)) :=
  bif (aV .lss Ut (List.length v39:Int)) then ((dB (jk N v33 v36 v39 Ut) N (false,0)).bind fun o46=>bif (!o46) then (some (.inr (Sum.inr false))) else (some (.inl (IntKind.i64.wrap (Ut+1))))) else (some (.inr (Sum.inl ())))
def jX (N:Nat) (x0:GPermitPlan) (x1:(List GEvent)) (s10:(Int×af×(List (Str×ah))×(List (Str×ai))×(List (Str×Str)))):Option ((Int×af×(List (Str×ah))×(List (Str×ai))×(List (Str×Str))) ⊕ ((af×(List (Str×ah))×(List (Str×ai))×(List (Str×Str))) ⊕ (Bool×af×(List (Str×ah))×(List (Str×ai))×(List (Str×Str))))) :=
  bif (aV .lss s10.1 (List.length x1:Int)) then ((idx x1 s10.1).bind fun v11=>(kF N s10.2.1 s10.2.2.1 s10.2.2.2.1 s10.2.2.2.2 v11).bind fun v12=>(je N v12.1 v12.2.1 v12.2.2.1 v12.2.2.2.1).bind fun v13=>(nD N x0 v13).bind fun v14=>bif ((!v14.1)||(aV .neq v14.2 0)) then (some (.inr (Sum.inr (false,v12.1,v12.2.1,v12.2.2.1,v12.2.2.2.1)))) else (some (.inl ((IntKind.i64.wrap (s10.1+1)),v12.1,v12.2.1,v12.2.2.1,v12.2.2.2.1)))) else (some (.inr (Sum.inl (s10.2.1,s10.2.2.1,s10.2.2.2.1,s10.2.2.2.2))))
def oO (N:Nat) (x0:GPermitPlan) (x1:(List GEvent)) (x2:Int):Option (Bool) :=
  (AV N x0).bind fun v1=>bif ((!v1)||(aV .gtr (List.length x1:Int) 30)) then ((xg N).bind fun v2=>some v2) else ((qX N x0).bind fun v3=>Aa v3 (fun v3e=>some false) (fun zI v3e=>bif (false||(aV .neq v3e 0)) then (some false) else ((dB (jX N x0 x1) N (0,zI.1,zI.2.1,zI.2.2.1,zI.2.2.2)).bind fun Wv=>Sum.elim (fun ql=>(kJ N ql.1 ql.2.1 ql.2.2.1 ql.2.2.2).bind fun v21=>(rQ N x0 v21).bind fun v22=>Aa v22 (fun MF=>(bif (!true) then (kJ N ql.1 ql.2.1 ql.2.2.1 ql.2.2.2) else some []).bind fun v23=>some false) (fun eU MF=>(bif (!(false||(aV .neq MF.2 0))) then (kJ N ql.1 ql.2.1 ql.2.2.1 ql.2.2.2) else some []).bind fun v30=>bif ((false||(aV .neq MF.2 0))||(aV .neq MF.1 (List.length v30:Int))) then (some false) else ((je N eU.1 eU.2.1 eU.2.2.1 eU.2.2.2).bind fun v31=>(nD N x0 v31).bind fun v32=>bif ((!v32.1)||(aV .neq v32.2 0)) then (some false) else ((je N ql.1 ql.2.1 ql.2.2.1 ql.2.2.2).bind fun v33=>bif (aV .eql (List.length v33:Int) 0) then ((xg N).bind fun v34=>some v34) else ((zM N x2 (List.length v33:Int)).bind fun v35=>(idx v33 v35).bind fun v36=>(pK N ql.1 ql.2.1 ql.2.2.1 ql.2.2.2).bind fun v37=>(kF N ql.1 ql.2.1 ql.2.2.1 ql.2.2.2 (⟨v37,3,v36,[],[],0,0,0⟩:GEvent)).bind fun v38=>bif (aV .neq v38.2.2.2.2.2 0) then (some false) else ((je N v38.1 v38.2.1 v38.2.2.1 v38.2.2.2.1).bind fun v39=>(dB (jY N v33 v36 v39) N 0).bind fun o51=>Sum.elim (fun l53=>(nD N x0 v39).bind fun v55=>(bif (v55.1&&(aV .eql v55.2 0)) then (xg N) else some false).bind fun v56=>some ((v55.1&&(aV .eql v55.2 0))&&v56)) (fun r54=>some r54) o51)))))) (fun r20=>some r20.1) Wv)))
end
end Go.KB
