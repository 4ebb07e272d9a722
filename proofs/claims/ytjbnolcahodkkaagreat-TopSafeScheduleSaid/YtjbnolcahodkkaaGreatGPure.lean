/- The functions as plain Lean functions. Printed by a program. No condition. -/
import Derived.Test.YtjbnolcahodkkaaGreatGTypes
import Derived.Test.YtjbnolcahodkkaaGreatKSos
namespace Go.KB
set_option linter.unusedVariables false
noncomputable section
def xP (N:Nat) (x0:(List Str)) (s1:Int):Option (Int ⊕ (Unit ⊕ Bool)) :=
  bif (aC .lss s1 (List.length x0:Int)) then ((idx x0 s1).bind fun v2=>bif (aC .gtr (List.length v2:Int) 40) then (some (.inr (Sum.inr false))) else (some (.inl (IntKind.i64.wrap (s1+1))))) else (some (.inr (Sum.inl ())))
def AY (N:Nat) (x0:(List Str)):Option (Bool) :=
  (dh (xP N x0) N 0).bind fun o5=>Sum.elim (fun l7=>some true) (fun r8=>some r8) o5
def xU (N:Nat) (x0:GWork) (s20:Int):Option (Int ⊕ (Unit ⊕ Bool)) :=
  bif (aC .lss s20 (List.length x0.Items:Int)) then ((idx x0.Items s20).bind fun v21=>(bif (!(((((aC .gtr (List.length v21.Name:Int) 40)||(aC .gtr (List.length v21.tK:Int) 40))||(aC .gtr (List.length v21.Space:Int) 40))||(aC .gtr (List.length v21.Modes:Int) 6))||(aC .gtr (List.length v21.After:Int) 12))) then (AY N v21.After) else some false).bind fun v22=>bif ((((((aC .gtr (List.length v21.Name:Int) 40)||(aC .gtr (List.length v21.tK:Int) 40))||(aC .gtr (List.length v21.Space:Int) 40))||(aC .gtr (List.length v21.Modes:Int) 6))||(aC .gtr (List.length v21.After:Int) 12))||(!v22)) then (some (.inr (Sum.inr false))) else (some (.inl (IntKind.i64.wrap (s20+1))))) else (some (.inr (Sum.inl ())))
def xR (N:Nat) (x0:GWork) (s9:Int):Option (Int ⊕ (Unit ⊕ Bool)) :=
  bif (aC .lss s9 (List.length x0.bP:Int)) then ((idx x0.bP s9).bind fun v10=>(bif (!(aC .gtr (List.length v10.Name:Int) 40)) then (idx x0.bP s9) else some (⟨[],false,[]⟩:dK)).bind fun v11=>(bif (!((aC .gtr (List.length v10.Name:Int) 40)||(aC .gtr (List.length v11.Next:Int) 20))) then (idx x0.bP s9) else some (⟨[],false,[]⟩:dK)).bind fun v12=>(bif (!((aC .gtr (List.length v10.Name:Int) 40)||(aC .gtr (List.length v11.Next:Int) 20))) then (AY N v12.Next) else some false).bind fun v13=>bif (((aC .gtr (List.length v10.Name:Int) 40)||(aC .gtr (List.length v11.Next:Int) 20))||(!v13)) then (some (.inr (Sum.inr false))) else (some (.inl (IntKind.i64.wrap (s9+1))))) else (some (.inr (Sum.inl ())))
def xQ (N:Nat) (x0:GWork) (s1:Int):Option (Int ⊕ (Unit ⊕ Bool)) :=
  bif (aC .lss s1 (List.length x0.fH:Int)) then ((idx x0.fH s1).bind fun v2=>bif (aC .gtr (List.length v2.Name:Int) 40) then (some (.inr (Sum.inr false))) else (some (.inl (IntKind.i64.wrap (s1+1))))) else (some (.inr (Sum.inl ())))
def Cf (N:Nat) (x0:GWork) (x1:Int):Option (Bool) :=
  bif ((((((aC .gtr (List.length x0.fH:Int) 8)||(aC .gtr (List.length x0.bP:Int) 14))||(aC .gtr (List.length x0.aW:Int) 32))||(aC .gtr (List.length x0.iO:Int) 22))||((aC .gtr (List.length x0.Items:Int) x1)&&(aC .leq (List.length x0.Items:Int) 40)))||(aC .gtr (List.length x0.Items:Int) 45)) then (some false) else ((dh (xQ N x0) N 0).bind fun o5=>Sum.elim (fun l7=>(dh (xR N x0) N 0).bind fun o16=>Sum.elim (fun l18=>(dh (xU N x0) N 0).bind fun Zr=>Sum.elim (fun l27=>some true) (fun r28=>some r28) Zr) (fun r19=>some r19) o16) (fun r8=>some r8) o5)
def wE (N:Nat) (x0:(List GSlot)) (s1:Int):Option (Int ⊕ (Unit ⊕ Bool)) :=
  bif ((aC .lss s1 (List.length x0:Int))&&(aC .leq (List.length x0:Int) 50)) then ((idx x0 s1).bind fun v2=>bif (aC .gtr (List.length v2.Item:Int) 40) then (some (.inr (Sum.inr false))) else (some (.inl (IntKind.i64.wrap (s1+1))))) else (some (.inr (Sum.inl ())))
def EL (N:Nat) (x0:(List GSlot)):Option (Bool) :=
  (dh (wE N x0) N 0).bind fun o5=>Sum.elim (fun l7=>some (aC .leq (List.length x0:Int) 50)) (fun r8=>some r8) o5
def mY (N:Nat) (x0:(List nT)) (x1:(nT→Option Str)) (s1:((List Str)×Int)):Option (((List Str)×Int) ⊕ (List Str)) :=
  bif (aC .lss s1.2 (List.length x0:Int)) then ((idx x0 s1.2).bind fun v2=>(x1 v2).bind fun v3=>(app s1.1 [v3]).bind fun v4=>some (.inl (v4,(IntKind.i64.wrap (s1.2+1))))) else (some (.inr s1.1))
def uN (N:Nat) (x0:(List nT)) (x1:(nT→Option Str)):Option ((List Str)) :=
  (dh (mY N x0 x1) N ([],0)).bind fun o6=>some o6
def qy (N:Nat) (x0:nT):Option (Str) :=
  some x0.Name
def rW (N:Nat) (x0:GWork):Option ((List Str)) :=
  (uN N x0.fH (fun y0=>qy N y0)).bind fun v1=>some v1
def jg (N:Nat) (x0:Int) (x1:Int):Option (Bool) :=
  some ((aC .geq x0 0)&&(aC .leq x0 x1))
def oP (N:Nat) (x0:Int) (c0:GWork):Option (Int) :=
  (idx c0.fH x0).bind fun v1=>(jg N v1.Dy 1000).bind fun v2=>(bif (!(!v2)) then (idx c0.fH x0) else some (⟨[],0,0⟩:nT)).bind fun v3=>(bif (!(!v2)) then (jg N v3.Yt 1000000) else some false).bind fun v4=>bif ((!v2)||(!v4)) then (some 2) else (some 0)
def BD (N:Nat) (x0:Str) (s1:Int):Option (Int ⊕ (Unit ⊕ Bool)) :=
  bif (aC .lss s1 (List.length x0:Int)) then ((idx x0 s1).bind fun v2=>bif ((!(((aC .geq ((UInt8.toNat v2:Nat):Int) 97)&&(aC .leq ((UInt8.toNat v2:Nat):Int) 122))||((aC .geq ((UInt8.toNat v2:Nat):Int) 65)&&(aC .leq ((UInt8.toNat v2:Nat):Int) 90))))&&((aC .eql s1 0)||((aC .neq ((UInt8.toNat v2:Nat):Int) 45)&&((aC .lss ((UInt8.toNat v2:Nat):Int) 48)||(aC .gtr ((UInt8.toNat v2:Nat):Int) 57))))) then (some (.inr (Sum.inr false))) else (some (.inl (IntKind.i64.wrap (s1+1))))) else (some (.inr (Sum.inl ())))
def Bd (N:Nat) (x0:Str):Option (Bool) :=
  bif ((aC .lss (List.length x0:Int) 1)||(aC .gtr (List.length x0:Int) 12)) then (some false) else ((dh (BD N x0) N 0).bind fun o5=>Sum.elim (fun l7=>some true) (fun r8=>some r8) o5)
def jB (N:Nat) (x0:(List Str)) (x1:Str) (s1:Int):Option (Int ⊕ (Unit ⊕ Int)) :=
  bif (aC .lss s1 (List.length x0:Int)) then ((idx x0 s1).bind fun v2=>bif (Bf .eql x1 v2) then (some (.inr (Sum.inr s1))) else (some (.inl (IntKind.i64.wrap (s1+1))))) else (some (.inr (Sum.inl ())))
def iU (N:Nat) (x0:(List Str)) (x1:Str):Option (Int) :=
  (dh (jB N x0 x1) N 0).bind fun o5=>Sum.elim (fun l7=>some (-1)) (fun r8=>some r8) o5
def dQ (N:Nat) (x0:(List Str)) (x1:Str):Option (Bool) :=
  (iU N x0 x1).bind fun v1=>some (aC .geq v1 0)
def uy (N:Nat) (x0:(List Str)) (x2:(Int→Option Int)) (s1:Int):Option (Int ⊕ (Unit ⊕ Int)) :=
  bif (aC .lss s1 (List.length x0:Int)) then ((idx x0 s1).bind fun v2=>(Bd N v2).bind fun v3=>bif (!v3) then (some (.inr (Sum.inr 4))) else ((TL x0 0 s1).bind fun v4=>(dQ N v4 v2).bind fun v5=>bif v5 then (some (.inr (Sum.inr 5))) else ((x2 s1).bind fun v6=>bif (aC .neq v6 0) then (some (.inr (Sum.inr v6))) else (some (.inl (IntKind.i64.wrap (s1+1))))))) else (some (.inr (Sum.inl ())))
def vN (N:Nat) (x0:(List Str)) (x1:Int) (x2:(Int→Option Int)):Option (Int) :=
  bif (aC .gtr (List.length x0:Int) x1) then (some 8) else ((dh (uy N x0 x2) N 0).bind fun Lj=>Sum.elim (fun l13=>some 0) (fun r14=>some r14) Lj)
def mZ (N:Nat) (x0:(List dK)) (x1:(dK→Option Str)) (s1:((List Str)×Int)):Option (((List Str)×Int) ⊕ (List Str)) :=
  bif (aC .lss s1.2 (List.length x0:Int)) then ((idx x0 s1.2).bind fun v2=>(x1 v2).bind fun v3=>(app s1.1 [v3]).bind fun v4=>some (.inl (v4,(IntKind.i64.wrap (s1.2+1))))) else (some (.inr s1.1))
def uO (N:Nat) (x0:(List dK)) (x1:(dK→Option Str)):Option ((List Str)) :=
  (dh (mZ N x0 x1) N ([],0)).bind fun o6=>some o6
def qA (N:Nat) (x0:dK):Option (Str) :=
  some x0.Name
def pY (N:Nat) (x0:GWork):Option ((List Str)) :=
  (uO N x0.bP (fun y0=>qA N y0)).bind fun v1=>some v1
def sD (N:Nat) (x0:Str) (c0:(List Str)):Option (Bool) :=
  (dQ N c0 x0).bind fun v1=>some (!v1)
def kC (N:Nat) (x0:(List Str)) (x1:(Str→Option Bool)) (s1:Int):Option (Int ⊕ (Unit ⊕ Int)) :=
  bif (aC .lss s1 (List.length x0:Int)) then ((idx x0 s1).bind fun v2=>(x1 v2).bind fun v3=>bif v3 then (some (.inr (Sum.inr s1))) else (some (.inl (IntKind.i64.wrap (s1+1))))) else (some (.inr (Sum.inl ())))
def qi (N:Nat) (x0:(List Str)) (x1:(Str→Option Bool)):Option (Int) :=
  (dh (kC N x0 x1) N 0).bind fun o6=>Sum.elim (fun l8=>some (-1)) (fun r9=>some r9) o6
def lU (N:Nat) (x0:(List Str)) (x1:(Str→Option Bool)):Option (Bool) :=
  (qi N x0 x1).bind fun v1=>some (aC .geq v1 0)
def oQ (N:Nat) (x0:Int) (c0:GWork) (c1:(List Str)):Option (Int) :=
  (idx c0.bP x0).bind fun v1=>(lU N v1.Next (fun y0=>sD N y0 c1)).bind fun v2=>bif v2 then (some 6) else (some 0)
def qR (N:Nat) (x0:GWork) (s12:Int):Option (Int ⊕ (Unit ⊕ Int)) :=
  bif (aC .lss s12 (List.length x0.iO:Int)) then ((idx x0.iO s12).bind fun v13=>(jg N v13.From 400).bind fun v14=>(bif (!(!v14)) then (jg N v13.To 400) else some false).bind fun v15=>bif ((!v14)||(!v15)) then (some (.inr (Sum.inr 2))) else (bif (aC .leq v13.To v13.From) then (some (.inr (Sum.inr 10))) else (some (.inl (IntKind.i64.wrap (s12+1)))))) else (some (.inr (Sum.inl ())))
def qQ (N:Nat) (x0:GWork) (s1:Int):Option (Int ⊕ (Unit ⊕ Int)) :=
  bif (aC .lss s1 (List.length x0.aW:Int)) then ((idx x0.aW s1).bind fun v2=>(jg N v2.A 5).bind fun v3=>(bif (!(!v3)) then (jg N v2.B 5) else some false).bind fun v4=>(bif (!((!v3)||(!v4))) then (jg N v2.Reach 2) else some false).bind fun v5=>bif (((!v3)||(!v4))||(!v5)) then (some (.inr (Sum.inr 2))) else (some (.inl (IntKind.i64.wrap (s1+1))))) else (some (.inr (Sum.inl ())))
def xw (N:Nat) (x0:GWork):Option (Int) :=
  bif (aC .gtr (List.length x0.aW:Int) 30) then (some 8) else ((dh (qQ N x0) N 0).bind fun o8=>Sum.elim (fun l10=>bif (aC .gtr (List.length x0.iO:Int) 20) then (some 8) else ((dh (qR N x0) N 0).bind fun UK=>Sum.elim (fun l21=>some 0) (fun r22=>some r22) UK)) (fun r11=>some r11) o8)
def nP (N:Nat) (x0:(List fQ)) (x1:(fQ→Option Str)) (s1:((List Str)×Int)):Option (((List Str)×Int) ⊕ (List Str)) :=
  bif (aC .lss s1.2 (List.length x0:Int)) then ((idx x0 s1.2).bind fun v2=>(x1 v2).bind fun v3=>(app s1.1 [v3]).bind fun v4=>some (.inl (v4,(IntKind.i64.wrap (s1.2+1))))) else (some (.inr s1.1))
def vW (N:Nat) (x0:(List fQ)) (x1:(fQ→Option Str)):Option ((List Str)) :=
  (dh (nP N x0 x1) N ([],0)).bind fun o6=>some o6
def qU (N:Nat) (x0:fQ):Option (Str) :=
  some x0.Name
def nD (N:Nat) (x0:GWork):Option ((List Str)) :=
  (vW N x0.Items (fun y0=>qU N y0)).bind fun v1=>some v1
def qc (N:Nat) (x1:fQ) (x2:(List Str)) (s16:Int):Option (Int ⊕ (Unit ⊕ Int)) :=
  bif (aC .lss s16 (List.length x1.After:Int)) then ((idx x1.After s16).bind fun v17=>(dQ N x2 v17).bind fun v18=>bif (!v18) then (some (.inr (Sum.inr 6))) else (bif (Bf .eql v17 x1.Name) then (some (.inr (Sum.inr 3))) else (some (.inl (IntKind.i64.wrap (s16+1)))))) else (some (.inr (Sum.inl ())))
def rX (N:Nat) (x0:GWork) (x1:fQ) (v2:Int) (s3:Int):Option (Int ⊕ (Unit ⊕ Int)) :=
  bif (aC .lss s3 (List.length x1.Modes:Int)) then ((idx x1.Modes s3).bind fun v4=>(bif (!((aC .lss v4.LD 1)||(aC .gtr v4.LD 60))) then (jg N v4.Dy 1000) else some false).bind fun v5=>bif (((aC .lss v4.LD 1)||(aC .gtr v4.LD 60))||(!v5)) then (some (.inr (Sum.inr 2))) else ((idx x0.fH v2).bind fun v6=>bif (aC .gtr v4.Dy v6.Dy) then (some (.inr (Sum.inr 23))) else (some (.inl (IntKind.i64.wrap (s3+1)))))) else (some (.inr (Sum.inl ())))
def yj (N:Nat) (x0:GWork) (x1:fQ) (x2:(List Str)):Option (Int) :=
  (rW N x0).bind fun v1=>(iU N v1 x1.tK).bind fun v2=>bif (aC .lss v2 0) then (some 6) else (bif ((aC .lss (List.length x1.Modes:Int) 1)||(aC .gtr (List.length x1.Modes:Int) 3)) then (some 2) else ((dh (rX N x0 x1 v2) N 0).bind fun VR=>Sum.elim (fun l12=>(bif (Bf .neq x1.Space ([]:Str)) then (pY N x0) else some []).bind fun v14=>(bif (Bf .neq x1.Space ([]:Str)) then (dQ N v14 x1.Space) else some false).bind fun v15=>bif ((Bf .neq x1.Space ([]:Str))&&(!v15)) then (some 6) else (bif ((aC .lss x1.Kind (-1))||(aC .gtr x1.Kind 5)) then (some 2) else (bif ((aC .neq x1.Kind (-1))&&(Bf .eql x1.Space ([]:Str))) then (some 3) else ((dh (qc N x1 x2) N 0).bind fun o22=>Sum.elim (fun l24=>some 0) (fun r25=>some r25) o22)))) (fun r13=>some r13) VR))
def oU (N:Nat) (x0:Int) (c0:GWork) (c1:(List Str)):Option (Int) :=
  (idx c0.Items x0).bind fun v1=>(yj N c0 v1 c1).bind fun v2=>some v2
def qI (N:Nat) (v1:(List Str)) (s3:((List (sH Int))×Int)) (v4:fQ) (s5:((List (sH Int))×Int)):Option (((List (sH Int))×Int) ⊕ (List (sH Int))) :=
  bif (aC .lss s5.2 (List.length v4.After:Int)) then ((idx v4.After s5.2).bind fun v6=>(idx s5.1 s3.2).bind fun v7=>(tkA s5.1 (Int.toNat s3.2)).bind fun v8=>(iU N v1 v6).bind fun v9=>(app v8 [v9]).bind fun v10=>(idx (List.set s5.1 (Int.toNat s3.2) sH.gone) s3.2).bind fun v11=>((List.set s5.1 (Int.toNat s3.2) sH.gone)[(Int.toNat s3.2)]?).bind fun v12=>some (.inl ((List.set (List.set s5.1 (Int.toNat s3.2) sH.gone) (Int.toNat s3.2) (sH.own v10)),(IntKind.i64.wrap (s5.2+1))))) else (some (.inr s5.1))
def qH (N:Nat) (x0:GWork) (v1:(List Str)) (s3:((List (sH Int))×Int)):Option (((List (sH Int))×Int) ⊕ (List (sH Int))) :=
  bif (aC .lss s3.2 (List.length x0.Items:Int)) then ((idx x0.Items s3.2).bind fun v4=>(dh (qI N v1 s3 v4) N (s3.1,0)).bind fun o14=>some (.inl (o14,(IntKind.i64.wrap (s3.2+1))))) else (some (.inr s3.1))
def wM (N:Nat) (x0:GWork):Option ((List (List Int))) :=
  (nD N x0).bind fun v1=>(mk (sH.own ([]:(List Int))) (List.length v1:Int) (List.length v1:Int)).bind fun v2=>(dh (qH N x0 v1) N (v2,0)).bind fun o18=>(allA o18).bind fun v20=>some v20
def oM (N:Nat) (x0:(List Int)) (x1:Int) (s1:Int):Option (Int ⊕ (Unit ⊕ Int)) :=
  bif (aC .lss s1 (List.length x0:Int)) then ((idx x0 s1).bind fun v2=>bif (aC .eql x1 v2) then (some (.inr (Sum.inr s1))) else (some (.inl (IntKind.i64.wrap (s1+1))))) else (some (.inr (Sum.inl ())))
def xH (N:Nat) (x0:(List Int)) (x1:Int):Option (Int) :=
  (dh (oM N x0 x1) N 0).bind fun o5=>Sum.elim (fun l7=>some (-1)) (fun r8=>some r8) o5
def kD (N:Nat) (x0:(List Int)) (x1:Int):Option (Bool) :=
  (xH N x0 x1).bind fun v1=>some (aC .geq v1 0)
def vX (N:Nat) (g0:(List Int)) (x0:Int):Option Bool :=
  (kD N g0 x0).bind fun v1=>some (!v1)
def iT (N:Nat) (g0:(List Int)) (x0:(List Int)) (s1:Int):Option (Int ⊕ (Unit ⊕ Int)) :=
  bif (aC .lss s1 (List.length x0:Int)) then ((idx x0 s1).bind fun v2=>(vX N g0 v2).bind fun v3=>bif v3 then (some (.inr (Sum.inr s1))) else (some (.inl (IntKind.i64.wrap (s1+1))))) else (some (.inr (Sum.inl ())))
def mG (N:Nat) (g0:(List Int)) (x0:(List Int)):Option Int :=
  (dh (iT N g0 x0) N 0).bind fun o6=>Sum.elim (fun l8=>some (-1)) (fun r9=>some r9) o6
def jO (N:Nat) (g0:(List Int)) (x0:(List Int)):Option Bool :=
  (mG N g0 x0).bind fun v1=>some (aC .geq v1 0)
def xG (N:Nat) (g0:(List Int)) (x0:(List Int)):Option Bool :=
  (jO N g0 x0).bind fun v1=>some (!v1)
def jP (N:Nat) (g0:(List Int)) (x0:(List (List Int))) (s1:Int):Option (Int ⊕ (Unit ⊕ Int)) :=
  bif (aC .lss s1 (List.length x0:Int)) then ((idx x0 s1).bind fun v2=>(xG N g0 v2).bind fun v3=>bif v3 then (some (.inr (Sum.inr s1))) else (some (.inl (IntKind.i64.wrap (s1+1))))) else (some (.inr (Sum.inl ())))
def kF (N:Nat) (g0:(List Int)) (x0:(List (List Int))):Option Int :=
  (dh (jP N g0 x0) N 0).bind fun o6=>Sum.elim (fun l8=>some (-1)) (fun r9=>some r9) o6
def zk (N:Nat) (g0:(List Int)) (x0:Int):Option Bool :=
  (kD N g0 x0).bind fun v1=>some (!v1)
def ou (N:Nat) (g0:(List Int)) (x0:(List Int)) (s1:Int):Option (Int ⊕ (Unit ⊕ Int)) :=
  bif (aC .lss s1 (List.length x0:Int)) then ((idx x0 s1).bind fun v2=>(zk N g0 v2).bind fun v3=>bif v3 then (some (.inr (Sum.inr s1))) else (some (.inl (IntKind.i64.wrap (s1+1))))) else (some (.inr (Sum.inl ())))
def pU (N:Nat) (g0:(List Int)) (x0:(List Int)):Option Int :=
  (dh (ou N g0 x0) N 0).bind fun o6=>Sum.elim (fun l8=>some (-1)) (fun r9=>some r9) o6
def oz (N:Nat) (g0:(List Int)) (x0:(List Int)):Option Bool :=
  (pU N g0 x0).bind fun v1=>some (aC .geq v1 0)
def Ak (N:Nat) (g0:(List Int)) (x0:(List Int)):Option Bool :=
  (oz N g0 x0).bind fun v1=>some (!v1)
def oC (N:Nat) (g0:(List Int)) (x0:(List (List Int))) (s1:Int):Option (Int ⊕ (Unit ⊕ Int)) :=
  bif (aC .lss s1 (List.length x0:Int)) then ((idx x0 s1).bind fun v2=>(Ak N g0 v2).bind fun v3=>bif v3 then (some (.inr (Sum.inr s1))) else (some (.inl (IntKind.i64.wrap (s1+1))))) else (some (.inr (Sum.inl ())))
def mr (N:Nat) (g0:(List Int)) (x0:(List (List Int))):Option Int :=
  (dh (oC N g0 x0) N 0).bind fun o6=>Sum.elim (fun l8=>some (-1)) (fun r9=>some r9) o6
def mD (N:Nat) (v1:(List (List Int))) (s3:(List Int)) (s5:Int):Option (Int ⊕ Int) :=
  (bif (aC .geq s5 0) then (kD N s3 s5) else some false).bind fun v6=>bif ((aC .geq s5 0)&&v6) then ((TL v1 (IntKind.i64.wrap (s5+1)) (List.length v1:Int)).bind fun v7=>(mr N s3 v7).bind fun v8=>bif (aC .lss v8 0) then (some (.inl (-1))) else (some (.inl (IntKind.i64.wrap (s5+(IntKind.i64.wrap (1+v8))))))) else (some (.inr s5))
def pV (N:Nat) (v1:(List (List Int))) (s3:(List Int)):Option ((List Int) ⊕ ((List Int) ⊕ ((List Int)×(List Int)))) :=
  bif (aC .lss (List.length s3:Int) (List.length v1:Int)) then ((kF N s3 v1).bind fun v4=>(dh (mD N v1 s3) N v4).bind fun Lj=>bif (aC .lss Lj 0) then (some (.inr (Sum.inr (s3,s3)))) else ((app s3 [Lj]).bind fun v13=>some (.inl v13))) else (some (.inr (Sum.inl s3)))
def vK (N:Nat) (x0:GWork):Option ((List Int)) :=
  (wM N x0).bind fun v1=>(dh (pV N v1) N ([]:(List Int))).bind fun o17=>Sum.elim (fun l19=>some l19) (fun r20=>some r20.1) o17
def wC (N:Nat) (x0:GWork):Option (Int) :=
  (rW N x0).bind fun v1=>(vN N v1 6 (fun y0=>oP N y0 x0)).bind fun v2=>bif (aC .neq v2 0) then (some v2) else ((pY N x0).bind fun v3=>(vN N v3 12 (fun y0=>oQ N y0 x0 v3)).bind fun v4=>bif (aC .neq v4 0) then (some v4) else ((xw N x0).bind fun v5=>bif (aC .neq v5 0) then (some v5) else ((nD N x0).bind fun v6=>(vN N v6 40 (fun y0=>oU N y0 x0 v6)).bind fun v7=>bif (aC .neq v7 0) then (some v7) else ((jg N x0.Yu 1000000000).bind fun v8=>(bif (!(!v8)) then (jg N x0.Late 1000000000) else some false).bind fun v9=>(bif (!((!v8)||(!v9))) then (jg N x0.Due 400) else some false).bind fun v10=>(bif (!(((!v8)||(!v9))||(!v10))) then (jg N x0.Last 400) else some false).bind fun v11=>bif ((((!v8)||(!v9))||(!v10))||(!v11)) then (some 2) else ((vK N x0).bind fun v12=>bif (aC .lss (List.length v12:Int) (List.length x0.Items:Int)) then (some 22) else (some 0))))))
def lQ (N:Nat) (x0:GWork) (x1:(List GSlot)) (v2:(List Str)) (s4:((List aK)×Int)):Option (((List aK)×Int) ⊕ ((List aK) ⊕ ((List aK)×Int))) :=
  bif (aC .lss s4.2 (List.length x1:Int)) then ((idx x1 s4.2).bind fun v5=>(iU N v2 v5.Item).bind fun v6=>bif (aC .lss v6 0) then (some (.inr (Sum.inr ([],6)))) else ((idx s4.1 v6).bind fun v7=>bif v7.on then (some (.inr (Sum.inr ([],5)))) else ((bif (!(aC .lss v5.Mode 0)) then (idx x0.Items v6) else some (⟨[],[],[],[],0,false,[]⟩:fQ)).bind fun v8=>(bif (!((aC .lss v5.Mode 0)||(aC .geq v5.Mode (List.length v8.Modes:Int)))) then (jg N v5.Day 400) else some false).bind fun v9=>bif (((aC .lss v5.Mode 0)||(aC .geq v5.Mode (List.length v8.Modes:Int)))||(!v9)) then (some (.inr (Sum.inr ([],2)))) else ((idx s4.1 v6).bind fun v10=>some (.inl ((List.set s4.1 (Int.toNat v6) (⟨v5.Mode,v5.Day,true⟩:aK)),(IntKind.i64.wrap (s4.2+1)))))))) else (some (.inr (Sum.inl s4.1)))
def rG (N:Nat) (x0:GWork) (x1:(List GSlot)):Option ((List aK)×Int) :=
  (wC N x0).bind fun v1=>bif (aC .neq v1 0) then (some ([],v1)) else (bif (aC .neq (List.length x1:Int) (List.length x0.Items:Int)) then (some ([],11)) else ((nD N x0).bind fun v2=>(mk (⟨0,0,false⟩:aK) (List.length v2:Int) (List.length v2:Int)).bind fun v3=>(dh (lQ N x0 x1 v2) N (v3,0)).bind fun TD=>Sum.elim (fun l17=>some (l17,0)) (fun r18=>some (r18.1,r18.2)) TD))
def uV (N:Nat):Option ((List fM)) :=
  some [(⟨(some 98)⟩:fM),(⟨(some 99)⟩:fM),(⟨(some 100)⟩:fM),(⟨(some 101)⟩:fM),(⟨(some 102)⟩:fM)]
def kL (N:Nat) (x0:aK) (x1:fQ):Option (Int) :=
  (idx x1.Modes x0.mode).bind fun v1=>some (IntKind.i64.wrap (x0.day+v1.LD))
def nU (N:Nat) (x0:GWork) (x1:(List aK)) (s2:((List dU)×Int)) (v3:(List Int)) (s4:((List dU)×Int)):Option (((List dU)×Int) ⊕ (List dU)) :=
  bif (aC .lss s4.2 (List.length v3:Int)) then ((idx v3 s4.2).bind fun v5=>(idx x1 v5).bind fun v6=>(idx x0.Items v5).bind fun v7=>(kL N v6 v7).bind fun v8=>(idx x1 s2.2).bind fun v9=>bif (aC .gtr v8 v9.day) then ((idx x0.Items v5).bind fun v10=>(idx x0.Items s2.2).bind fun v11=>(app s4.1 [(⟨v10.Name,v11.Name,10⟩:dU)]).bind fun v12=>some (.inl (v12,(IntKind.i64.wrap (s4.2+1))))) else (some (.inl (s4.1,(IntKind.i64.wrap (s4.2+1)))))) else (some (.inr s4.1))
def pX (N:Nat) (x0:GWork) (x1:(List aK)) (v1:(List (List Int))) (s2:((List dU)×Int)):Option (((List dU)×Int) ⊕ (List dU)) :=
  bif (aC .lss s2.2 (List.length v1:Int)) then ((idx v1 s2.2).bind fun v3=>(dh (nU N x0 x1 s2 v3) N (s2.1,0)).bind fun TD=>some (.inl (TD,(IntKind.i64.wrap (s2.2+1))))) else (some (.inr s2.1))
def qE (N:Nat) (x0:GWork) (x1:(List aK)):Option (List dU) :=
  (wM N x0).bind fun v1=>(dh (pX N x0 x1 v1) N ([],0)).bind fun UK=>some UK
def tJ (N:Nat) (v2:aK) (v3:fQ) (s4:((List (Int×Int))×Int)):Option (((List (Int×Int))×Int) ⊕ (List (Int×Int))) :=
  (kL N v2 v3).bind fun v5=>bif (aC .lss s4.2 v5) then ((idx v3.Modes v2.mode).bind fun v6=>some (.inl ((tX s4.1 s4.2 (IntKind.i64.wrap ((jD 0 s4.1 s4.2)+v6.Dy))),(IntKind.i64.wrap (s4.2+1))))) else (some (.inr s4.1))
def qF (N:Nat) (x0:GWork) (x1:(List aK)) (x2:Str) (s1:((List (Int×Int))×Int)):Option (((List (Int×Int))×Int) ⊕ (List (Int×Int))) :=
  bif (aC .lss s1.2 (List.length x1:Int)) then ((idx x1 s1.2).bind fun v2=>(idx x0.Items s1.2).bind fun v3=>bif ((!v2.on)||(Bf .neq v3.tK x2)) then (some (.inl (s1.1,(IntKind.i64.wrap (s1.2+1))))) else ((dh (tJ N v2 v3) N (s1.1,v2.day)).bind fun o8=>some (.inl (o8,(IntKind.i64.wrap (s1.2+1)))))) else (some (.inr s1.1))
def wL (N:Nat) (x0:GWork) (x1:(List aK)) (x2:Str):Option ((List (Int×Int))) :=
  (dh (qF N x0 x1 x2) N (([]:(List (Int×Int))),0)).bind fun X6=>some X6
def mM (N:Nat) (s6:Int) (p7:(Int×Int)):Option Int :=
  some (max s6 p7.2)
def jd (N:Nat) (x0:GWork) (x1:(List aK)) (s1:((List dU)×Int)):Option (((List dU)×Int) ⊕ (List dU)) :=
  bif (aC .lss s1.2 (List.length x0.fH:Int)) then ((idx x0.fH s1.2).bind fun v2=>(wL N x0 x1 v2.Name).bind fun v3=>JO v3 fun q8p=>(KI (mM N) q8p 0).bind fun s6=>bif (aC .gtr s6 v2.Dy) then ((app s1.1 [(⟨v2.Name,[],23⟩:dU)]).bind fun v9=>some (.inl (v9,(IntKind.i64.wrap (s1.2+1))))) else (some (.inl (s1.1,(IntKind.i64.wrap (s1.2+1)))))) else (some (.inr s1.1))
def nC (N:Nat) (x0:GWork) (x1:(List aK)):Option (List dU) :=
  (dh (jd N x0 x1) N ([],0)).bind fun Ub=>some Ub
def AB (N:Nat) (x0:GWork) (x1:(List aK)) (x2:Int) (x3:Int):Option (Bool) :=
  (idx x1 x2).bind fun v1=>(bif v1.on then (idx x1 x3) else some (⟨0,0,false⟩:aK)).bind fun v2=>(bif (v1.on&&v2.on) then (idx x1 x2) else some (⟨0,0,false⟩:aK)).bind fun v3=>(bif (v1.on&&v2.on) then (idx x1 x3) else some (⟨0,0,false⟩:aK)).bind fun v4=>(bif (v1.on&&v2.on) then (idx x0.Items x3) else some (⟨[],[],[],[],0,false,[]⟩:fQ)).bind fun v5=>(bif (v1.on&&v2.on) then (kL N v4 v5) else some 0).bind fun v6=>(bif ((v1.on&&v2.on)&&(aC .lss v3.day v6)) then (idx x1 x3) else some (⟨0,0,false⟩:aK)).bind fun v7=>(bif ((v1.on&&v2.on)&&(aC .lss v3.day v6)) then (idx x1 x2) else some (⟨0,0,false⟩:aK)).bind fun v8=>(bif ((v1.on&&v2.on)&&(aC .lss v3.day v6)) then (idx x0.Items x2) else some (⟨[],[],[],[],0,false,[]⟩:fQ)).bind fun v9=>(bif ((v1.on&&v2.on)&&(aC .lss v3.day v6)) then (kL N v8 v9) else some 0).bind fun v10=>some (((v1.on&&v2.on)&&(aC .lss v3.day v6))&&(aC .lss v7.day v10))
def sS (N:Nat) (x0:GWork) (x1:Str) (x2:Str) (s1:Int):Option (Int ⊕ (Unit ⊕ Int)) :=
  bif (aC .lss s1 (List.length x0.bP:Int)) then ((idx x0.bP s1).bind fun v2=>(bif (Bf .eql v2.Name x1) then (dQ N v2.Next x2) else some false).bind fun v3=>(bif ((!((Bf .eql v2.Name x1)&&v3))&&(Bf .eql v2.Name x2)) then (dQ N v2.Next x1) else some false).bind fun v4=>bif (((Bf .eql v2.Name x1)&&v3)||((Bf .eql v2.Name x2)&&v4)) then (some (.inr (Sum.inr 1))) else (some (.inl (IntKind.i64.wrap (s1+1))))) else (some (.inr (Sum.inl ())))
def AL (N:Nat) (x0:GWork) (x1:Str) (x2:Str):Option (Int) :=
  bif (Bf .eql x1 x2) then (some 0) else ((dh (sS N x0 x1 x2) N 0).bind fun o7=>Sum.elim (fun l9=>some 2) (fun r10=>some r10) o7)
def rV (N:Nat) (x0:dH) (c0:fQ) (c1:fQ) (c2:GWork):Option (Bool) :=
  (bif (((aC .eql x0.A c0.Kind)&&(aC .eql x0.B c1.Kind))||((aC .eql x0.A c1.Kind)&&(aC .eql x0.B c0.Kind))) then (AL N c2 c0.Space c1.Space) else some 0).bind fun v1=>some ((((aC .eql x0.A c0.Kind)&&(aC .eql x0.B c1.Kind))||((aC .eql x0.A c1.Kind)&&(aC .eql x0.B c0.Kind)))&&(aC .leq v1 x0.Reach))
def iV (N:Nat) (x0:(List dH)) (x1:(dH→Option Bool)) (s1:Int):Option (Int ⊕ (Unit ⊕ Int)) :=
  bif (aC .lss s1 (List.length x0:Int)) then ((idx x0 s1).bind fun v2=>(x1 v2).bind fun v3=>bif v3 then (some (.inr (Sum.inr s1))) else (some (.inl (IntKind.i64.wrap (s1+1))))) else (some (.inr (Sum.inl ())))
def jy (N:Nat) (x0:(List dH)) (x1:(dH→Option Bool)):Option (Int) :=
  (dh (iV N x0 x1) N 0).bind fun o6=>Sum.elim (fun l8=>some (-1)) (fun r9=>some r9) o6
def fJ (N:Nat) (x0:(List dH)) (x1:(dH→Option Bool)):Option (Bool) :=
  (jy N x0 x1).bind fun v1=>some (aC .geq v1 0)
def xu (N:Nat) (x0:GWork) (x1:fQ) (x2:fQ):Option (Bool) :=
  bif (((Bf .eql x1.Name x2.Name)||(aC .lss x1.Kind 0))||(aC .lss x2.Kind 0)) then (some false) else ((fJ N x0.aW (fun y0=>rV N y0 x1 x2 x0)).bind fun v1=>some v1)
def zX (N:Nat) (x0:GWork) (x1:Int) (x2:Int):Option (Bool) :=
  (idx x0.Items x1).bind fun v1=>(idx x0.Items x2).bind fun v2=>(bif (!(v1.Gy&&v2.Gy)) then (xu N x0 v1 v2) else some false).bind fun v3=>some ((v1.Gy&&v2.Gy)||v3)
def nJ (N:Nat) (x0:GWork) (x1:(List aK)) (s1:((List dU)×Int)) (s2:((List dU)×Int)):Option (((List dU)×Int) ⊕ (List dU)) :=
  bif (aC .lss s2.2 (List.length x1:Int)) then ((AB N x0 x1 s1.2 s2.2).bind fun v3=>(bif v3 then (zX N x0 s1.2 s2.2) else some false).bind fun v4=>bif (v3&&v4) then ((idx x0.Items s1.2).bind fun v5=>(idx x0.Items s2.2).bind fun v6=>(app s2.1 [(⟨v5.Name,v6.Name,17⟩:dU)]).bind fun v7=>some (.inl (v7,(IntKind.i64.wrap (s2.2+1))))) else (some (.inl (s2.1,(IntKind.i64.wrap (s2.2+1)))))) else (some (.inr s2.1))
def nI (N:Nat) (x0:GWork) (x1:(List aK)) (s1:((List dU)×Int)):Option (((List dU)×Int) ⊕ (List dU)) :=
  bif (aC .lss s1.2 (List.length x1:Int)) then ((dh (nJ N x0 x1 s1) N (s1.1,(IntKind.i64.wrap (s1.2+1)))).bind fun VR=>some (.inl (VR,(IntKind.i64.wrap (s1.2+1))))) else (some (.inr s1.1))
def nV (N:Nat) (x0:GWork) (x1:(List aK)):Option (List dU) :=
  (dh (nI N x0 x1) N ([],0)).bind fun o14=>some o14
def qG (N:Nat) (x0:nK) (c0:aK) (c1:fQ):Option (Bool) :=
  (bif (aC .lss c0.day x0.To) then (kL N c0 c1) else some 0).bind fun v1=>some ((aC .lss c0.day x0.To)&&(aC .lss x0.From v1))
def iR (N:Nat) (x0:(List nK)) (x1:(nK→Option Bool)) (s1:Int):Option (Int ⊕ (Unit ⊕ Int)) :=
  bif (aC .lss s1 (List.length x0:Int)) then ((idx x0 s1).bind fun v2=>(x1 v2).bind fun v3=>bif v3 then (some (.inr (Sum.inr s1))) else (some (.inl (IntKind.i64.wrap (s1+1))))) else (some (.inr (Sum.inl ())))
def mF (N:Nat) (x0:(List nK)) (x1:(nK→Option Bool)):Option (Int) :=
  (dh (iR N x0 x1) N 0).bind fun o6=>Sum.elim (fun l8=>some (-1)) (fun r9=>some r9) o6
def jR (N:Nat) (x0:(List nK)) (x1:(nK→Option Bool)):Option (Bool) :=
  (mF N x0 x1).bind fun v1=>some (aC .geq v1 0)
def yh (N:Nat) (x0:GWork) (x1:fQ) (x2:aK):Option (Bool) :=
  (bif x1.Gy then (jR N x0.iO (fun y0=>qG N y0 x2 x1)) else some false).bind fun v1=>some (x1.Gy&&v1)
def ng (N:Nat) (x0:GWork) (x1:(List aK)) (s1:((List dU)×Int)):Option (((List dU)×Int) ⊕ (List dU)) :=
  bif (aC .lss s1.2 (List.length x1:Int)) then ((idx x1 s1.2).bind fun v2=>(idx x0.Items s1.2).bind fun v3=>(yh N x0 v3 v2).bind fun v4=>bif v4 then ((idx x0.Items s1.2).bind fun v5=>(app s1.1 [(⟨v5.Name,[],18⟩:dU)]).bind fun v6=>some (.inl (v6,(IntKind.i64.wrap (s1.2+1))))) else (some (.inl (s1.1,(IntKind.i64.wrap (s1.2+1)))))) else (some (.inr s1.1))
def pO (N:Nat) (x0:GWork) (x1:(List aK)):Option (List dU) :=
  (dh (ng N x0 x1) N ([],0)).bind fun o9=>some o9
def oH (N:Nat) (x0:GWork) (x1:(List aK)) (s1:((List dU)×Int)):Option (((List dU)×Int) ⊕ (List dU)) :=
  bif (aC .lss s1.2 (List.length x1:Int)) then ((idx x1 s1.2).bind fun v2=>(idx x0.Items s1.2).bind fun v3=>(kL N v2 v3).bind fun v4=>bif (aC .gtr v4 x0.Last) then ((idx x0.Items s1.2).bind fun v5=>(app s1.1 [(⟨v5.Name,[],16⟩:dU)]).bind fun v6=>some (.inl (v6,(IntKind.i64.wrap (s1.2+1))))) else (some (.inl (s1.1,(IntKind.i64.wrap (s1.2+1)))))) else (some (.inr s1.1))
def rM (N:Nat) (x0:GWork) (x1:(List aK)):Option (List dU) :=
  (dh (oH N x0 x1) N ([],0)).bind fun o9=>some o9
def qP (N:Nat) (n:(Option Nat)) (x0:GWork) (x1:(List aK)):Option (List dU) :=
  bif decide (n=some 98) then ((qE N x0 x1).bind fun y=>some y) else (bif decide (n=some 99) then ((nC N x0 x1).bind fun y=>some y) else (bif decide (n=some 100) then ((nV N x0 x1).bind fun y=>some y) else (bif decide (n=some 101) then ((pO N x0 x1).bind fun y=>some y) else (bif decide (n=some 102) then ((rM N x0 x1).bind fun y=>some y) else (none)))))
def lM (N:Nat) (x0:GWork) (v1:((List aK)×Int)) (v2:(List fM)) (s3:((List dU)×Int)):Option (((List dU)×Int) ⊕ (List dU)) :=
  bif (aC .lss s3.2 (List.length v2:Int)) then ((idx v2 s3.2).bind fun v4=>(qP N v4.find x0 v1.1).bind fun v5=>(app s3.1 v5).bind fun v6=>some (.inl (v6,(IntKind.i64.wrap (s3.2+1))))) else (some (.inr s3.1))
def uq (N:Nat) (x0:GWork) (x1:(List GSlot)):Option ((List dU)×Int) :=
  (rG N x0 x1).bind fun v1=>bif (aC .neq v1.2 0) then (some ([],v1.2)) else ((uV N).bind fun v2=>(dh (lM N x0 v1 v2) N ([],0)).bind fun o8=>some (o8,0))
def qK (N:Nat) (x0:GWork) (x1:(List GSlot)):Option ((List aK)×Int) :=
  (uq N x0 x1).bind fun v1=>bif (aC .neq v1.2 0) then (some ([],v1.2)) else (bif (aC .gtr (List.length v1.1:Int) 0) then ((idx v1.1 0).bind fun v2=>some ([],v2.Reason)) else ((rG N x0 x1).bind fun v3=>some (v3.1,v3.2)))
def wz (N:Nat) (x0:GWork) (x1:(List GSlot)):Option (Int) :=
  (qK N x0 x1).bind fun v1=>some v1.2
def Aj (N:Nat) (x0:GWork) (x1:(List aK)) (s1:(Int×Int)):Option ((Int×Int) ⊕ Int) :=
  bif (aC .lss s1.2 (List.length x1:Int)) then ((idx x1 s1.2).bind fun v2=>bif v2.on then ((idx x0.Items s1.2).bind fun v3=>(kL N v2 v3).bind fun v4=>some (.inl ((max s1.1 v4),(IntKind.i64.wrap (s1.2+1))))) else (some (.inl (s1.1,(IntKind.i64.wrap (s1.2+1)))))) else (some (.inr s1.1))
def zG (N:Nat) (x0:GWork) (x1:(List aK)):Option (Int) :=
  (dh (Aj N x0 x1) N (0,0)).bind fun o7=>some o7
def yL (N:Nat) (x0:GWork) (x1:(List GSlot)):Option (Int×Int) :=
  (qK N x0 x1).bind fun v1=>bif (aC .neq v1.2 0) then (some (0,v1.2)) else ((zG N x0 v1.1).bind fun v2=>some (v2,0))
def xM (N:Nat):Option (Bool) :=
  (yL N (⟨[(⟨([97]:Str),([119]:Str),[(⟨3,1⟩:xX)],[],(-1),false,[]⟩:fQ)],[(⟨([119]:Str),1,0⟩:nT)],[],[],[],0,0,0,5⟩:GWork) [(⟨([97]:Str),0,1⟩:GSlot)]).bind fun v1=>some ((aC .eql v1.2 0)&&(aC .eql v1.1 4))
def sO (N:Nat) (x0:Int) (x1:Int) (c0:(List aK)):Option (Int) :=
  (idx c0 x0).bind fun v1=>(idx c0 x1).bind fun v2=>some (IntKind.i64.wrap (v1.day - v2.day))
def iK (N:Nat) (x1:Int) (x3:(Int→Int→Option Int)) (s2:((List Int)×Int)):Option (((List Int)×Int) ⊕ (List Int)) :=
  (bif (aC .gtr s2.2 x1) then (idx s2.1 s2.2) else some 0).bind fun v3=>(bif (aC .gtr s2.2 x1) then (idx s2.1 (IntKind.i64.wrap (s2.2 - 1))) else some 0).bind fun v4=>(bif (aC .gtr s2.2 x1) then (x3 v3 v4) else some 0).bind fun v5=>bif ((aC .gtr s2.2 x1)&&(aC .lss v5 0)) then ((idx s2.1 (IntKind.i64.wrap (s2.2 - 1))).bind fun v6=>(idx s2.1 s2.2).bind fun v7=>(idx s2.1 s2.2).bind fun v8=>(idx (List.set s2.1 (Int.toNat s2.2) v6) (IntKind.i64.wrap (s2.2 - 1))).bind fun v9=>some (.inl ((List.set (List.set s2.1 (Int.toNat s2.2) v6) (Int.toNat (IntKind.i64.wrap (s2.2 - 1))) v7),(IntKind.i64.wrap (s2.2 - 1))))) else (some (.inr s2.1))
def kz (N:Nat) (x1:Int) (x2:Int) (x3:(Int→Int→Option Int)) (s1:((List Int)×Int)):Option (((List Int)×Int) ⊕ (List Int)) :=
  bif (aC .lss s1.2 x2) then ((dh (iK N x1 x3) N (s1.1,s1.2)).bind fun Lj=>some (.inl (Lj,(IntKind.i64.wrap (s1.2+1))))) else (some (.inr s1.1))
def ny (N:Nat) (x0:(List Int)) (x1:Int) (x2:Int) (x3:(Int→Int→Option Int)):Option ((List Int)) :=
  (dh (kz N x1 x2 x3) N (x0,(IntKind.i64.wrap (x1+1)))).bind fun TD=>some TD
def uH (N:Nat) (x1:Int) (x2:Int) (x3:Int) (s1:((List Int)×Int)):Option (((List Int)×Int) ⊕ (List Int)) :=
  bif (aC .lss s1.2 x3) then ((idx s1.1 (IntKind.i64.wrap (x2+s1.2))).bind fun v2=>(idx s1.1 (IntKind.i64.wrap (x1+s1.2))).bind fun v3=>(idx s1.1 (IntKind.i64.wrap (x1+s1.2))).bind fun v4=>(idx (List.set s1.1 (Int.toNat (IntKind.i64.wrap (x1+s1.2))) v2) (IntKind.i64.wrap (x2+s1.2))).bind fun v5=>some (.inl ((List.set (List.set s1.1 (Int.toNat (IntKind.i64.wrap (x1+s1.2))) v2) (Int.toNat (IntKind.i64.wrap (x2+s1.2))) v3),(IntKind.i64.wrap (s1.2+1))))) else (some (.inr s1.1))
def pq (N:Nat) (x0:(List Int)) (x1:Int) (x2:Int) (x3:Int) (x4:(Int→Int→Option Int)):Option ((List Int)) :=
  (dh (uH N x1 x2 x3) N (x0,0)).bind fun o7=>some o7
def wV (N:Nat) (x2:Int) (x4:(Int→Int→Option Int)) (s1:((List Int)×Int×Int)):Option (((List Int)×Int×Int) ⊕ ((List Int)×Int)) :=
  bif (aC .neq s1.2.1 s1.2.2) then (bif (aC .gtr s1.2.1 s1.2.2) then ((pq N s1.1 (IntKind.i64.wrap (x2 - s1.2.1)) x2 s1.2.2 x4).bind fun v2=>some (.inl (v2,(IntKind.i64.wrap (s1.2.1 - s1.2.2)),s1.2.2))) else ((pq N s1.1 (IntKind.i64.wrap (x2 - s1.2.1)) (IntKind.i64.wrap ((IntKind.i64.wrap (x2+s1.2.2)) - s1.2.1)) s1.2.1 x4).bind fun v3=>some (.inl (v3,s1.2.1,(IntKind.i64.wrap (s1.2.2 - s1.2.1)))))) else (some (.inr (s1.1,s1.2.1)))
def yI (N:Nat) (x0:(List Int)) (x1:Int) (x2:Int) (x3:Int) (x4:(Int→Int→Option Int)):Option ((List Int)) :=
  (dh (wV N x2 x4) N (x0,(IntKind.i64.wrap (x2 - x1)),(IntKind.i64.wrap (x3 - x2)))).bind fun o6=>(pq N o6.1 (IntKind.i64.wrap (x2 - o6.2)) x2 o6.2 x4).bind fun v8=>some v8
def vF (N:Nat) (o8:Int) (s10:((List Int)×Int)):Option (((List Int)×Int) ⊕ (List Int)) :=
  bif (aC .lss s10.2 (IntKind.i64.wrap (o8 - 1))) then ((idx s10.1 (IntKind.i64.wrap (s10.2+1))).bind fun v11=>(idx s10.1 s10.2).bind fun v12=>(idx s10.1 s10.2).bind fun v13=>(idx (List.set s10.1 (Int.toNat s10.2) v11) (IntKind.i64.wrap (s10.2+1))).bind fun v14=>some (.inl ((List.set (List.set s10.1 (Int.toNat s10.2) v11) (Int.toNat (IntKind.i64.wrap (s10.2+1))) v12),(IntKind.i64.wrap (s10.2+1))))) else (some (.inr s10.1))
def vC (N:Nat) (x0:(List Int)) (x1:Int) (x4:(Int→Int→Option Int)) (s1:(Int×Int)):Option ((Int×Int) ⊕ Int) :=
  bif (aC .lss s1.1 s1.2) then ((shrI .u64 (IntKind.u64.wrap (IntKind.i64.wrap (s1.1+s1.2))) 1).bind fun v2=>(idx x0 (IntKind.i64.wrap v2)).bind fun v3=>(idx x0 x1).bind fun v4=>(x4 v3 v4).bind fun v5=>bif (aC .lss v5 0) then (some (.inl ((IntKind.i64.wrap ((IntKind.i64.wrap v2)+1)),s1.2))) else (some (.inl (s1.1,(IntKind.i64.wrap v2))))) else (some (.inr s1.1))
def vH (N:Nat) (o27:Int) (QT:((List Int)×Int)):Option (((List Int)×Int) ⊕ (List Int)) :=
  bif (aC .gtr QT.2 o27) then ((idx QT.1 (IntKind.i64.wrap (QT.2 - 1))).bind fun v30=>(idx QT.1 QT.2).bind fun v31=>(idx QT.1 QT.2).bind fun v32=>(idx (List.set QT.1 (Int.toNat QT.2) v30) (IntKind.i64.wrap (QT.2 - 1))).bind fun v33=>some (.inl ((List.set (List.set QT.1 (Int.toNat QT.2) v30) (Int.toNat (IntKind.i64.wrap (QT.2 - 1))) v31),(IntKind.i64.wrap (QT.2 - 1))))) else (some (.inr QT.1))
def vG (N:Nat) (x0:(List Int)) (x2:Int) (x4:(Int→Int→Option Int)) (s20:(Int×Int)):Option ((Int×Int) ⊕ Int) :=
  bif (aC .lss s20.1 s20.2) then ((shrI .u64 (IntKind.u64.wrap (IntKind.i64.wrap (s20.1+s20.2))) 1).bind fun v21=>(idx x0 x2).bind fun v22=>(idx x0 (IntKind.i64.wrap v21)).bind fun v23=>(x4 v22 v23).bind fun v24=>bif (!(aC .lss v24 0)) then (some (.inl ((IntKind.i64.wrap ((IntKind.i64.wrap v21)+1)),s20.2))) else (some (.inl (s20.1,(IntKind.i64.wrap v21))))) else (some (.inr s20.1))
def vI (N:Nat) (x0:(List Int)) (x2:Int) (x4:(Int→Int→Option Int)) (v39:Int) (s43:(Int×Int)):Option ((Int×Int) ⊕ Int) :=
  bif (aC .lss s43.1 s43.2) then ((shrI .u64 (IntKind.u64.wrap (IntKind.i64.wrap (s43.1+s43.2))) 1).bind fun v44=>(idx x0 (IntKind.i64.wrap ((IntKind.i64.wrap ((IntKind.i64.wrap ((IntKind.i64.wrap v39)+x2)) - 1)) - (IntKind.i64.wrap v44)))).bind fun v45=>(idx x0 (IntKind.i64.wrap v44)).bind fun v46=>(x4 v45 v46).bind fun v47=>bif (!(aC .lss v47 0)) then (some (.inl ((IntKind.i64.wrap ((IntKind.i64.wrap v44)+1)),s43.2))) else (some (.inl (s43.1,(IntKind.i64.wrap v44))))) else (some (.inr s43.1))
def wB (N:Nat) (rc:(List Int)→Int→Int→Int→(Int→Int→Option Int)→Option ((List Int))) (x0:(List Int)) (x1:Int) (x2:Int) (x3:Int) (x4:(Int→Int→Option Int)):Option ((List Int)) :=
  bif (aC .eql (IntKind.i64.wrap (x2 - x1)) 1) then ((dh (vC N x0 x1 x4) N (x2,x3)).bind fun o8=>(dh (vF N o8) N (x0,x1)).bind fun o16=>some o16) else (bif (aC .eql (IntKind.i64.wrap (x3 - x2)) 1) then ((dh (vG N x0 x2 x4) N (x1,x2)).bind fun o27=>(dh (vH N o27) N (x0,x2)).bind fun o35=>some o35) else ((shrI .u64 (IntKind.u64.wrap (IntKind.i64.wrap (x1+x3))) 1).bind fun v39=>((bif (aC .gtr x2 (IntKind.i64.wrap v39)) then (some ((IntKind.i64.wrap ((IntKind.i64.wrap ((IntKind.i64.wrap v39)+x2)) - x3)),(IntKind.i64.wrap v39))) else (some (x1,x2))):Option (Int×Int)).bind fun o41=>(dh (vI N x0 x2 x4 v39) N (o41.1,o41.2)).bind fun UN=>((bif ((aC .lss UN x2)&&(aC .lss x2 (IntKind.i64.wrap ((IntKind.i64.wrap ((IntKind.i64.wrap v39)+x2)) - UN)))) then ((yI N x0 UN x2 (IntKind.i64.wrap ((IntKind.i64.wrap ((IntKind.i64.wrap v39)+x2)) - UN)) x4).bind fun v52=>some v52) else (some x0)):Option (List Int)).bind fun o54=>((bif ((aC .lss x1 UN)&&(aC .lss UN (IntKind.i64.wrap v39))) then ((rc o54 x1 UN (IntKind.i64.wrap v39) x4).bind fun v56=>some v56) else (some o54)):Option (List Int)).bind fun o58=>bif ((aC .lss (IntKind.i64.wrap v39) (IntKind.i64.wrap ((IntKind.i64.wrap ((IntKind.i64.wrap v39)+x2)) - UN)))&&(aC .lss (IntKind.i64.wrap ((IntKind.i64.wrap ((IntKind.i64.wrap v39)+x2)) - UN)) x3)) then ((rc o58 (IntKind.i64.wrap v39) (IntKind.i64.wrap ((IntKind.i64.wrap ((IntKind.i64.wrap v39)+x2)) - UN)) x3 x4).bind fun v60=>some v60) else (some o58)))
def lN (N:Nat):(List Int)→Int→Int→Int→(Int→Int→Option Int)→Option ((List Int)) :=
  match N with
  | 0=>fun _ _ _ _ _=>none
  | N+1=>fun x0 x1 x2 x3 x4=>wB N (lN N) x0 x1 x2 x3 x4
def wW (N:Nat) (x1:Int) (x2:(Int→Int→Option Int)) (s7:((List Int)×Int)) (s8:((List Int)×Int×Int)):Option (((List Int)×Int×Int) ⊕ ((List Int)×Int)) :=
  bif (aC .leq s8.2.2 x1) then ((lN N s8.1 s8.2.1 (IntKind.i64.wrap (s8.2.1+s7.2)) s8.2.2 x2).bind fun v9=>some (.inl (v9,s8.2.2,(IntKind.i64.wrap (s8.2.2+(IntKind.i64.wrap (2 * s7.2))))))) else (some (.inr (s8.1,s8.2.1)))
def mX (N:Nat) (x1:Int) (x2:(Int→Int→Option Int)) (s7:((List Int)×Int)):Option (((List Int)×Int) ⊕ (List Int)) :=
  bif (aC .lss s7.2 x1) then ((dh (wW N x1 x2 s7) N (s7.1,0,(IntKind.i64.wrap (2 * s7.2)))).bind fun Lj=>bif (aC .lss (IntKind.i64.wrap (Lj.2+s7.2)) x1) then ((lN N Lj.1 Lj.2 (IntKind.i64.wrap (Lj.2+s7.2)) x1 x2).bind fun v13=>some (.inl (v13,(IntKind.i64.wrap (s7.2 * 2))))) else (some (.inl (Lj.1,(IntKind.i64.wrap (s7.2 * 2)))))) else (some (.inr s7.1))
def mW (N:Nat) (x1:Int) (x2:(Int→Int→Option Int)) (s1:((List Int)×Int×Int)):Option (((List Int)×Int×Int) ⊕ ((List Int)×Int)) :=
  bif (aC .leq s1.2.2 x1) then ((ny N s1.1 s1.2.1 s1.2.2 x2).bind fun v2=>some (.inl (v2,s1.2.2,(IntKind.i64.wrap (s1.2.2+20))))) else (some (.inr (s1.1,s1.2.1)))
def uM (N:Nat) (x0:(List Int)) (x1:Int) (x2:(Int→Int→Option Int)):Option ((List Int)) :=
  (dh (mW N x1 x2) N (x0,0,20)).bind fun o4=>(ny N o4.1 o4.2 x1 x2).bind fun v6=>(dh (mX N x1 x2) N (v6,20)).bind fun o17=>some o17
def nS (N:Nat) (x0:(List Int)) (x1:(Int→Int→Option Int)):Option ((List Int)) :=
  (uM N x0 (List.length x0:Int) x1).bind fun v1=>some v1
def rF (N:Nat) (x0:(List aK)) (s1:((List Int)×Int)):Option (((List Int)×Int) ⊕ (List Int)) :=
  bif (aC .lss s1.2 (List.length x0:Int)) then ((app s1.1 [s1.2]).bind fun v2=>some (.inl (v2,(IntKind.i64.wrap (s1.2+1))))) else (some (.inr s1.1))
def zQ (N:Nat) (x0:(List aK)):Option ((List Int)) :=
  (dh (rF N x0) N ([],0)).bind fun o4=>(nS N o4 (fun y0 y1=>sO N y0 y1 x0)).bind fun v6=>some v6
def sQ (N:Nat) (x0:GWork) (v1:((List aK)×Int)) (v2:(List Int)) (s3:((List oV)×Int)):Option (((List oV)×Int) ⊕ (List oV)) :=
  bif (aC .lss s3.2 (List.length v2:Int)) then ((idx v2 s3.2).bind fun v4=>(idx x0.Items v4).bind fun v5=>bif (aC .geq v5.Kind 0) then ((idx v1.1 v4).bind fun v6=>(idx v1.1 v4).bind fun v7=>(kL N v7 v5).bind fun v8=>(app s3.1 [(⟨v5.Name,v5.Space,v5.Kind,v6.day,v8⟩:oV)]).bind fun v9=>some (.inl (v9,(IntKind.i64.wrap (s3.2+1))))) else (some (.inl (s3.1,(IntKind.i64.wrap (s3.2+1)))))) else (some (.inr s3.1))
def Az (N:Nat) (x0:GWork) (x1:(List GSlot)):Option ((List oV)×Int) :=
  (qK N x0 x1).bind fun v1=>bif (aC .neq v1.2 0) then (some ([],v1.2)) else ((zQ N v1.1).bind fun v2=>(dh (sQ N x0 v1 v2) N ([],0)).bind fun Ub=>some (Ub,0))
def wY (N:Nat) (x1:(List oV)) (s8:(ax×Int)):Option ((ax×Int) ⊕ ax) :=
  bif (aC .lss s8.2 (List.length x1:Int)) then ((idx x1 s8.2).bind fun v9=>(idx x1 s8.2).bind fun v10=>(idx x1 s8.2).bind fun v11=>(idx x1 s8.2).bind fun v12=>(idx x1 s8.2).bind fun v13=>(app s8.1.aO [(⟨v9.Item,v10.Kind,v11.Space,(IntKind.i64.wrap (1440 * v12.From)),(IntKind.i64.wrap (1440 * v13.To)),[]⟩:aQ)]).bind fun v14=>some (.inl (({ s8.1 with aO:=v14 }:ax),(IntKind.i64.wrap (s8.2+1))))) else (some (.inr s8.1))
def wX (N:Nat) (x0:GWork) (s1:(ax×Int)):Option ((ax×Int) ⊕ ax) :=
  bif (aC .lss s1.2 (List.length x0.bP:Int)) then ((idx x0.bP s1.2).bind fun v2=>(idx x0.bP s1.2).bind fun v3=>(app s1.1.bP [(⟨v2.Name,false,v3.Next⟩:dK)]).bind fun v4=>some (.inl (({ s1.1 with bP:=v4 }:ax),(IntKind.i64.wrap (s1.2+1))))) else (some (.inr s1.1))
def Dx (N:Nat) (x0:GWork) (x1:(List oV)):Option (ax) :=
  (dh (wX N x0) N ((⟨[],x0.aW,[],60⟩:ax),0)).bind fun o6=>(dh (wY N x1) N (o6,0)).bind fun o16=>some o16
def AA (N:Nat) (x0:Int):Option (Bool) :=
  some (((aC .geq x0 97)&&(aC .leq x0 122))||((aC .geq x0 65)&&(aC .leq x0 90)))
def vJ (N:Nat) (x0:Str) (s3:Int):Option (Int ⊕ (Unit ⊕ Bool)) :=
  bif (aC .lss s3 (List.length x0:Int)) then ((idx x0 s3).bind fun v4=>(AA N ((UInt8.toNat v4:Nat):Int)).bind fun v5=>bif (((!v5)&&(aC .neq ((UInt8.toNat v4:Nat):Int) 45))&&((aC .lss ((UInt8.toNat v4:Nat):Int) 48)||(aC .gtr ((UInt8.toNat v4:Nat):Int) 57))) then (some (.inr (Sum.inr false))) else (some (.inl (IntKind.i64.wrap (s3+1))))) else (some (.inr (Sum.inl ())))
def su (N:Nat) (x0:Str):Option (Bool) :=
  (bif (!((aC .lss (List.length x0:Int) 1)||(aC .gtr (List.length x0:Int) 12))) then (idx x0 0) else some 0).bind fun v1=>(bif (!((aC .lss (List.length x0:Int) 1)||(aC .gtr (List.length x0:Int) 12))) then (AA N ((UInt8.toNat v1:Nat):Int)) else some false).bind fun v2=>bif (((aC .lss (List.length x0:Int) 1)||(aC .gtr (List.length x0:Int) 12))||(!v2)) then (some false) else ((dh (vJ N x0) N 0).bind fun o8=>Sum.elim (fun l10=>some true) (fun r11=>some r11) o8)
def qw (N:Nat) (l10:(List (Str×Bool))) (v13:dK) (s14:Int):Option (Int ⊕ (Unit ⊕ Int)) :=
  bif (aC .lss s14 (List.length v13.Next:Int)) then ((idx v13.Next s14).bind fun v15=>bif (!(jD false l10 v15)) then (some (.inr (Sum.inr 6))) else (bif (Bf .eql v15 v13.Name) then (some (.inr (Sum.inr 3))) else (some (.inl (IntKind.i64.wrap (s14+1)))))) else (some (.inr (Sum.inl ())))
def qp (N:Nat) (x0:ax) (l10:(List (Str×Bool))) (s12:Int):Option (Int ⊕ (Unit ⊕ Int)) :=
  bif (aC .lss s12 (List.length x0.bP:Int)) then ((idx x0.bP s12).bind fun v13=>(dh (qw N l10 v13) N 0).bind fun UK=>Sum.elim (fun l21=>some (.inl (IntKind.i64.wrap (s12+1)))) (fun r22=>some (.inr (Sum.inr r22))) UK) else (some (.inr (Sum.inl ())))
def qo (N:Nat) (x0:ax) (s1:((List (Str×Bool))×Int)):Option (((List (Str×Bool))×Int) ⊕ ((List (Str×Bool)) ⊕ Int)) :=
  bif (aC .lss s1.2 (List.length x0.bP:Int)) then ((idx x0.bP s1.2).bind fun v2=>(su N v2.Name).bind fun v3=>bif (!v3) then (some (.inr (Sum.inr 4))) else (bif (jD false s1.1 v2.Name) then (some (.inr (Sum.inr 5))) else (bif (aC .gtr (List.length v2.Next:Int) 30) then (some (.inr (Sum.inr 8))) else (some (.inl ((tX s1.1 v2.Name true),(IntKind.i64.wrap (s1.2+1)))))))) else (some (.inr (Sum.inl s1.1)))
def wu (N:Nat) (x0:ax):Option (Int) :=
  (dh (qo N x0) N (([]:(List (Str×Bool))),0)).bind fun o8=>Sum.elim (fun l10=>(dh (qp N x0 l10) N 0).bind fun Zr=>Sum.elim (fun l27=>some 0) (fun r28=>some r28) Zr) (fun r11=>some r11) o8
def AX (N:Nat) (x0:Int):Option (Bool) :=
  some ((aC .geq x0 0)&&(aC .leq x0 5))
def yg (N:Nat) (x0:dK) (c0:Str):Option (Bool) :=
  some (Bf .eql x0.Name c0)
def jZ (N:Nat) (x0:(List dK)) (x1:(dK→Option Bool)) (s1:Int):Option (Int ⊕ (Unit ⊕ Int)) :=
  bif (aC .lss s1 (List.length x0:Int)) then ((idx x0 s1).bind fun v2=>(x1 v2).bind fun v3=>bif v3 then (some (.inr (Sum.inr s1))) else (some (.inl (IntKind.i64.wrap (s1+1))))) else (some (.inr (Sum.inl ())))
def kV (N:Nat) (x0:(List dK)) (x1:(dK→Option Bool)):Option (Int) :=
  (dh (jZ N x0 x1) N 0).bind fun o6=>Sum.elim (fun l8=>some (-1)) (fun r9=>some r9) o6
def jX (N:Nat) (x0:ax) (x1:Str):Option (dK×Bool) :=
  (kV N x0.bP (fun y0=>yg N y0 x1)).bind fun v1=>bif (aC .lss v1 0) then (some ((⟨[],false,[]⟩:dK),false)) else ((idx x0.bP v1).bind fun v2=>some (v2,true))
def xh (N:Nat) (x0:aQ) (c0:Str):Option (Bool) :=
  some (Bf .eql x0.Name c0)
def jM (N:Nat) (x0:(List aQ)) (x1:(aQ→Option Bool)) (s1:Int):Option (Int ⊕ (Unit ⊕ Int)) :=
  bif (aC .lss s1 (List.length x0:Int)) then ((idx x0 s1).bind fun v2=>(x1 v2).bind fun v3=>bif v3 then (some (.inr (Sum.inr s1))) else (some (.inl (IntKind.i64.wrap (s1+1))))) else (some (.inr (Sum.inl ())))
def jl (N:Nat) (x0:(List aQ)) (x1:(aQ→Option Bool)):Option (Int) :=
  (dh (jM N x0 x1) N 0).bind fun o6=>Sum.elim (fun l8=>some (-1)) (fun r9=>some r9) o6
def oh (N:Nat) (x0:ax) (x1:Str):Option (aQ×Bool) :=
  (jl N x0.aO (fun y0=>xh N y0 x1)).bind fun v1=>bif (aC .lss v1 0) then (some ((⟨[],0,[],0,0,[]⟩:aQ),false)) else ((idx x0.aO v1).bind fun v2=>some (v2,true))
def pM (N:Nat) (x0:ax) (v17:aQ) (XJ:Int):Option (Int ⊕ (Unit ⊕ Int)) :=
  bif (aC .lss XJ (List.length v17.Locks:Int)) then ((idx v17.Locks XJ).bind fun v19=>(oh N x0 v19).bind fun v20=>bif (!v20.2) then (some (.inr (Sum.inr 6))) else (bif ((aC .neq v20.1.Kind 5)||(aC .eql v17.Kind 5)) then (some (.inr (Sum.inr 3))) else (some (.inl (IntKind.i64.wrap (XJ+1)))))) else (some (.inr (Sum.inl ())))
def pK (N:Nat) (x0:ax) (s16:Int):Option (Int ⊕ (Unit ⊕ Int)) :=
  bif (aC .lss s16 (List.length x0.aO:Int)) then ((idx x0.aO s16).bind fun v17=>(dh (pM N x0 v17) N 0).bind fun o24=>Sum.elim (fun l26=>some (.inl (IntKind.i64.wrap (s16+1)))) (fun r27=>some (.inr (Sum.inr r27))) o24) else (some (.inr (Sum.inl ())))
def pJ (N:Nat) (x0:ax) (s1:((List (Str×Bool))×Int)):Option (((List (Str×Bool))×Int) ⊕ (Unit ⊕ Int)) :=
  bif (aC .lss s1.2 (List.length x0.aO:Int)) then ((idx x0.aO s1.2).bind fun v2=>(jX N x0 v2.Space).bind fun v3=>(su N v2.Name).bind fun v4=>bif (!v4) then (some (.inr (Sum.inr 4))) else (bif (jD false s1.1 v2.Name) then (some (.inr (Sum.inr 5))) else ((AX N v2.Kind).bind fun v5=>bif ((((!v5)||(aC .lss v2.From 0))||(aC .geq v2.From v2.To))||(aC .gtr v2.To 1000000)) then (some (.inr (Sum.inr 2))) else (bif (!v3.2) then (some (.inr (Sum.inr 6))) else (bif (aC .gtr (List.length v2.Locks:Int) 10) then (some (.inr (Sum.inr 8))) else (some (.inl ((tX s1.1 v2.Name true),(IntKind.i64.wrap (s1.2+1)))))))))) else (some (.inr (Sum.inl ())))
def uU (N:Nat) (x0:ax):Option (Int) :=
  (dh (pJ N x0) N (([]:(List (Str×Bool))),0)).bind fun Ub=>Sum.elim (fun l14=>(dh (pK N x0) N 0).bind fun o30=>Sum.elim (fun l32=>some 0) (fun r33=>some r33) o30) (fun r15=>some r15) Ub
def rU (N:Nat) (x0:ax) (s2:Int):Option (Int ⊕ (Unit ⊕ Int)) :=
  bif (aC .lss s2 (List.length x0.aW:Int)) then ((idx x0.aW s2).bind fun v3=>(AX N v3.A).bind fun v4=>(bif (!(!v4)) then (AX N v3.B) else some false).bind fun v5=>bif ((((!v4)||(!v5))||(aC .lss v3.Reach 0))||(aC .gtr v3.Reach 2)) then (some (.inr (Sum.inr 2))) else (some (.inl (IntKind.i64.wrap (s2+1))))) else (some (.inr (Sum.inl ())))
def vz (N:Nat) (x0:ax):Option (Int) :=
  bif (((aC .gtr (List.length x0.bP:Int) 30)||(aC .gtr (List.length x0.aW:Int) 30))||(aC .gtr (List.length x0.aO:Int) 20)) then (some 8) else (bif ((aC .lss x0.gY 1)||(aC .gtr x0.gY 10000)) then (some 2) else ((wu N x0).bind fun v1=>bif (aC .neq v1 0) then (some v1) else ((dh (rU N x0) N 0).bind fun o8=>Sum.elim (fun l10=>(uU N x0).bind fun v12=>some v12) (fun r11=>some r11) o8)))
def mg (N:Nat) (x0:(List dK)):Option ((List dK)) :=
  (app ([]:(List dK)) x0).bind fun v1=>some v1
def jW (N:Nat) (x0:(List dH)):Option ((List dH)) :=
  (app ([]:(List dH)) x0).bind fun v1=>some v1
def lC (N:Nat) (x0:(List aQ)):Option ((List aQ)) :=
  (app ([]:(List aQ)) x0).bind fun v1=>some v1
def iy (N:Nat) (x0:(List Str)):Option ((List Str)) :=
  (app ([]:(List Str)) x0).bind fun v1=>some v1
def sN (N:Nat) (v3:(List aQ)) (s14:(Int×(List aQ))):Option ((Int×(List aQ)) ⊕ (List aQ)) :=
  bif (aC .lss s14.1 (List.length v3:Int)) then ((idx s14.2 s14.1).bind fun v15=>(iy N v15.Locks).bind fun v16=>(idx s14.2 s14.1).bind fun v17=>some (.inl ((IntKind.i64.wrap (s14.1+1)),(List.set s14.2 (Int.toNat s14.1) ({ v17 with Locks:=v16 }:aQ))))) else (some (.inr s14.2))
def sK (N:Nat) (v1:(List dK)) (s7:(Int×(List dK))):Option ((Int×(List dK)) ⊕ (List dK)) :=
  bif (aC .lss s7.1 (List.length v1:Int)) then ((idx s7.2 s7.1).bind fun v8=>(iy N v8.Next).bind fun v9=>(idx s7.2 s7.1).bind fun v10=>some (.inl ((IntKind.i64.wrap (s7.1+1)),(List.set s7.2 (Int.toNat s7.1) ({ v10 with Next:=v9 }:dK))))) else (some (.inr s7.2))
def Aw (N:Nat) (x0:ax):Option (ax) :=
  (mg N x0.bP).bind fun v1=>(jW N x0.aW).bind fun v2=>(lC N x0.aO).bind fun v3=>(dh (sK N v1) N (0,v1)).bind fun Ub=>(dh (sN N v3) N (0,v3)).bind fun UK=>some ({ ({ x0 with aW:=v2 }:ax) with bP:=Ub,aO:=UK }:ax)
def fZ (N:Nat) (g0:ah) (aP:(List (Str×ai))) (aH:(List (Str×au))) (aJ:(List (Str×Str))) (x1:Str) (x2:(List Int)):Option Bool :=
  (kD N x2 ((jD (⟨0,[],0⟩:ai) aP x1).state)).bind fun v1=>some v1
def fK (N:Nat) (g0:ah) (aP:(List (Str×ai))) (aH:(List (Str×au))) (aJ:(List (Str×Str))) (x1:Str) (x2:Int):Option (List (Str×ai)) :=
  some (tX aP x1 ({ (jD (⟨0,[],0⟩:ai) aP x1) with state:=x2 }:ai))
def vV (N:Nat) (x0:ax) (x1:Str) (x2:Str):Option (Int) :=
  (jX N x0 x1).bind fun v1=>(jX N x0 x2).bind fun v2=>bif (Bf .eql x1 x2) then (some 0) else ((dQ N v1.1.Next x2).bind fun v3=>(bif (!v3) then (dQ N v2.1.Next x1) else some false).bind fun v4=>bif (v3||v4) then (some 1) else (some 2))
def wK (N:Nat) (x0:ax) (v1:(dK×Bool)) (s11:((List Str)×Int)):Option (((List Str)×Int) ⊕ (List Str)) :=
  bif (aC .lss s11.2 (List.length x0.bP:Int)) then ((idx x0.bP s11.2).bind fun v12=>(bif v12.fU then (vV N x0 v12.Name v1.1.Name) else some 0).bind fun v13=>bif (v12.fU&&(aC .eql v13 1)) then ((app s11.1 [v12.Name]).bind fun v14=>some (.inl (v14,(IntKind.i64.wrap (s11.2+1))))) else (some (.inl (s11.1,(IntKind.i64.wrap (s11.2+1)))))) else (some (.inr s11.1))
def BA (N:Nat) (x0:ax) (x1:aQ):Option ((List Str)) :=
  (jX N x0 x1.Space).bind fun v1=>((((bif (aC .eql x1.Kind 0) then (some (aC .eql x1.Kind 0)) else (bif (aC .eql x1.Kind 1) then (some (aC .eql x1.Kind 1)) else (some (aC .eql x1.Kind 2)))):Option Bool).bind fun o4=>bif o4 then (bif v1.1.fU then ((app [] [v1.1.Name]).bind fun v6=>some v6) else (some [])) else (some [])):Option (List Str)).bind fun o9=>bif (aC .eql x1.Kind 0) then ((dh (wK N x0 v1) N (o9,0)).bind fun o17=>some o17) else (some o9)
def ul (N:Nat) (g0:ah) (aP:(List (Str×ai))) (aH:(List (Str×au))) (aJ:(List (Str×Str))) (x1:Str):Option (Bool×Bool) :=
  (jX N g0.plan x1).bind fun v1=>bif (!v1.1.fU) then (some (true,true)) else (some ((((((qM aH x1)&&(aC .leq (IntKind.i64.wrap (g0.now - ((jD (⟨0,0,0⟩:au) aH x1).at_))) g0.plan.gY))&&(aC .geq ((jD (⟨0,0,0⟩:au) aH x1).pR) 195))&&(aC .leq ((jD (⟨0,0,0⟩:au) aH x1).pR) 235))&&(aC .leq ((jD (⟨0,0,0⟩:au) aH x1).Yf) 50)),((((((qM aH x1)&&(aC .leq (IntKind.i64.wrap (g0.now - ((jD (⟨0,0,0⟩:au) aH x1).at_))) g0.plan.gY))&&(aC .geq ((jD (⟨0,0,0⟩:au) aH x1).pR) 195))&&(aC .leq ((jD (⟨0,0,0⟩:au) aH x1).pR) 235))&&(aC .leq ((jD (⟨0,0,0⟩:au) aH x1).Yf) 50))&&(aC .leq ((jD (⟨0,0,0⟩:au) aH x1).Yf) 10))))
def nO (N:Nat) (g0:ah) (aP:(List (Str×ai))) (aH:(List (Str×au))) (aJ:(List (Str×Str))) (x0:Str) (c1:aQ):Option Bool :=
  (ul N g0 aP aH aJ x0).bind fun v1=>bif (aC .eql c1.Kind 0) then (some v1.2) else (some v1.1)
def gX (N:Nat) (g0:ah) (aP:(List (Str×ai))) (aH:(List (Str×au))) (aJ:(List (Str×Str))) (x0:(List Str)) (qY:aQ) (s1:Int):Option (Int ⊕ (Unit ⊕ Int)) :=
  bif (aC .lss s1 (List.length x0:Int)) then ((idx x0 s1).bind fun v2=>(nO N g0 aP aH aJ v2 qY).bind fun v3=>bif v3 then (some (.inr (Sum.inr s1))) else (some (.inl (IntKind.i64.wrap (s1+1))))) else (some (.inr (Sum.inl ())))
def iw (N:Nat) (g0:ah) (aP:(List (Str×ai))) (aH:(List (Str×au))) (aJ:(List (Str×Str))) (x0:(List Str)) (qY:aQ):Option Int :=
  (dh (gX N g0 aP aH aJ x0 qY) N 0).bind fun o6=>Sum.elim (fun l8=>some (-1)) (fun r9=>some r9) o6
def gU (N:Nat) (g0:ah) (aP:(List (Str×ai))) (aH:(List (Str×au))) (aJ:(List (Str×Str))) (qY:aQ) (s2:((List Str)×Int×Int)):Option (((List Str)×Int×Int) ⊕ ((List Str)×Int)) :=
  bif (aC .lss s2.2.2 (List.length s2.1:Int)) then ((idx s2.1 s2.2.2).bind fun v3=>(nO N g0 aP aH aJ v3 qY).bind fun v4=>bif (!v4) then ((idx s2.1 s2.2.1).bind fun v5=>some (.inl ((List.set s2.1 (Int.toNat s2.2.1) v3),(IntKind.i64.wrap (s2.2.1+1)),(IntKind.i64.wrap (s2.2.2+1))))) else (some (.inl (s2.1,s2.2.1,(IntKind.i64.wrap (s2.2.2+1)))))) else (some (.inr (s2.1,s2.2.1)))
def gZ (N:Nat) (g0:ah) (aP:(List (Str×ai))) (aH:(List (Str×au))) (aJ:(List (Str×Str))) (x0:(List Str)) (qY:aQ):Option (List Str) :=
  (iw N g0 aP aH aJ x0 qY).bind fun v1=>bif (aC .eql v1 (-1)) then (some x0) else ((dh (gU N g0 aP aH aJ qY) N (x0,v1,(IntKind.i64.wrap (v1+1)))).bind fun o8=>(TL o8.1 o8.2 (List.length o8.1:Int)).bind fun v10=>(bif Nat.beq ((Int.toNat o8.2)+(Int.toNat (List.length o8.1:Int) - Int.toNat o8.2)) (List.length o8.1) then some (List.take (Int.toNat o8.2) o8.1 ++ List.replicate (Int.toNat (List.length o8.1:Int) - Int.toNat o8.2) []) else none).bind fun v11=>(TL v11 0 o8.2).bind fun v12=>some v12)
def oL (N:Nat) (g0:ah) (aP:(List (Str×ai))) (aH:(List (Str×au))) (aJ:(List (Str×Str))) (x1:aQ):Option (List Str) :=
  (BA N g0.plan x1).bind fun v1=>(gZ N g0 aP aH aJ v1 x1).bind fun v2=>some v2
def lq (N:Nat) (g0:ah) (aP:(List (Str×ai))) (aH:(List (Str×au))) (aJ:(List (Str×Str))) (x0:Str):Option Bool :=
  (fZ N g0 aP aH aJ x0 [2]).bind fun v1=>some v1
def gV (N:Nat) (g0:ah) (aP:(List (Str×ai))) (aH:(List (Str×au))) (aJ:(List (Str×Str))) (x0:(List Str)) (s1:Int):Option (Int ⊕ (Unit ⊕ Int)) :=
  bif (aC .lss s1 (List.length x0:Int)) then ((idx x0 s1).bind fun v2=>(lq N g0 aP aH aJ v2).bind fun v3=>bif v3 then (some (.inr (Sum.inr s1))) else (some (.inl (IntKind.i64.wrap (s1+1))))) else (some (.inr (Sum.inl ())))
def ig (N:Nat) (g0:ah) (aP:(List (Str×ai))) (aH:(List (Str×au))) (aJ:(List (Str×Str))) (x0:(List Str)):Option Int :=
  (dh (gV N g0 aP aH aJ x0) N 0).bind fun o6=>Sum.elim (fun l8=>some (-1)) (fun r9=>some r9) o6
def eY (N:Nat) (g0:ah) (aP:(List (Str×ai))) (aH:(List (Str×au))) (aJ:(List (Str×Str))) (s2:((List Str)×Int×Int)):Option (((List Str)×Int×Int) ⊕ ((List Str)×Int)) :=
  bif (aC .lss s2.2.2 (List.length s2.1:Int)) then ((idx s2.1 s2.2.2).bind fun v3=>(lq N g0 aP aH aJ v3).bind fun v4=>bif (!v4) then ((idx s2.1 s2.2.1).bind fun v5=>some (.inl ((List.set s2.1 (Int.toNat s2.2.1) v3),(IntKind.i64.wrap (s2.2.1+1)),(IntKind.i64.wrap (s2.2.2+1))))) else (some (.inl (s2.1,s2.2.1,(IntKind.i64.wrap (s2.2.2+1)))))) else (some (.inr (s2.1,s2.2.1)))
def jf (N:Nat) (g0:ah) (aP:(List (Str×ai))) (aH:(List (Str×au))) (aJ:(List (Str×Str))) (x0:(List Str)):Option (List Str) :=
  (ig N g0 aP aH aJ x0).bind fun v1=>bif (aC .eql v1 (-1)) then (some x0) else ((dh (eY N g0 aP aH aJ) N (x0,v1,(IntKind.i64.wrap (v1+1)))).bind fun o8=>(TL o8.1 o8.2 (List.length o8.1:Int)).bind fun v10=>(bif Nat.beq ((Int.toNat o8.2)+(Int.toNat (List.length o8.1:Int) - Int.toNat o8.2)) (List.length o8.1) then some (List.take (Int.toNat o8.2) o8.1 ++ List.replicate (Int.toNat (List.length o8.1:Int) - Int.toNat o8.2) []) else none).bind fun v11=>(TL v11 0 o8.2).bind fun v12=>some v12)
def lZ (N:Nat) (g0:ah) (aP:(List (Str×ai))) (aH:(List (Str×au))) (aJ:(List (Str×Str))) (x1:aQ):Option (List Str) :=
  (iy N x1.Locks).bind fun v1=>(jf N g0 aP aH aJ v1).bind fun v2=>some v2
def lK (N:Nat) (g0:ah) (aH:(List (Str×au))) (aJ:(List (Str×Str))) (s10:(Bool×Int×(List (Str×ai)))):Option ((Bool×Int×(List (Str×ai))) ⊕ (Bool×(List (Str×ai)))) :=
  bif (aC .lss s10.2.1 (List.length g0.plan.aO:Int)) then ((idx g0.plan.aO s10.2.1).bind fun v11=>(fZ N g0 s10.2.2 aH aJ v11.Name [2]).bind fun v12=>(bif v12 then (oL N g0 s10.2.2 aH aJ v11) else some []).bind fun v13=>(bif (v12&&(!(aC .gtr (List.length v13:Int) 0))) then (lZ N g0 s10.2.2 aH aJ v11) else some []).bind fun v14=>bif (v12&&((aC .gtr (List.length v13:Int) 0)||(aC .gtr (List.length v14:Int) 0))) then ((fK N g0 s10.2.2 aH aJ v11.Name 3).bind fun v15=>some (.inl (true,(IntKind.i64.wrap (s10.2.1+1)),v15))) else (some (.inl (s10.1,(IntKind.i64.wrap (s10.2.1+1)),s10.2.2)))) else (some (.inr (s10.1,s10.2.2)))
def nN (N:Nat) (g0:ah) (aH:(List (Str×au))) (aJ:(List (Str×Str))) (s9:(Bool×(List (Str×ai)))):Option ((Bool×(List (Str×ai))) ⊕ (List (Str×ai))) :=
  bif s9.1 then ((dh (lK N g0 aH aJ) N (false,0,s9.2)).bind fun o18=>some (.inl (o18.1,o18.2))) else (some (.inr s9.2))
def nM (N:Nat) (g0:ah) (aH:(List (Str×au))) (aJ:(List (Str×Str))) (s1:(Int×(List (Str×ai)))):Option ((Int×(List (Str×ai))) ⊕ (List (Str×ai))) :=
  bif (aC .lss s1.1 (List.length g0.plan.aO:Int)) then ((idx g0.plan.aO s1.1).bind fun v2=>(fZ N g0 s1.2 aH aJ v2.Name [0,1,2,3]).bind fun v3=>bif (v3&&(aC .leq ((jD (⟨0,[],0⟩:ai) s1.2 v2.Name).Es) g0.now)) then ((fK N g0 s1.2 aH aJ v2.Name 6).bind fun v4=>some (.inl ((IntKind.i64.wrap (s1.1+1)),v4))) else (some (.inl ((IntKind.i64.wrap (s1.1+1)),s1.2)))) else (some (.inr s1.2))
def lT (N:Nat) (g0:ah) (aP:(List (Str×ai))) (aH:(List (Str×au))) (aJ:(List (Str×Str))):Option (List (Str×ai)) :=
  (dh (nM N g0 aH aJ) N (0,aP)).bind fun o7=>(dh (nN N g0 aH aJ) N (true,o7)).bind fun o22=>some o22
def rJ (N:Nat) (x0:ax) (s7:(Int×(List (Str×ai)))):Option ((Int×(List (Str×ai))) ⊕ (List (Str×ai))) :=
  bif (aC .lss s7.1 (List.length x0.aO:Int)) then ((idx x0.aO s7.1).bind fun v8=>some (.inl ((IntKind.i64.wrap (s7.1+1)),(tX s7.2 v8.Name (⟨0,[],v8.To⟩:ai))))) else (some (.inr s7.2))
def x9 (N:Nat) (x0:ax):Option ((Option (ah×(List (Str×ai))×(List (Str×au))×(List (Str×Str))))×(Int)) :=
  (vz N x0).bind fun v1=>bif (aC .neq v1 0) then (some (none,v1)) else ((Aw N x0).bind fun v2=>(dh (rJ N x0) N (0,([]:(List (Str×ai))))).bind fun VR=>(lT N (⟨v2,0,[]⟩:ah) VR ([]:(List (Str×au))) ([]:(List (Str×Str)))).bind fun v12=>some ((some ((⟨v2,0,[]⟩:ah),v12,([]:(List (Str×au))),([]:(List (Str×Str))))),0))
def zM (N:Nat):Option ((List bV)) :=
  some [(⟨([116,105,99,107]:Str),([]:Str),([]:(List Int)),(some 52)⟩:bV),(⟨([97,112,112,114,111,118,101]:Str),([110,112]:Str),[0],(some 53)⟩:bV),(⟨([111,112,101,110]:Str),([110,112]:Str),[1],(some 54)⟩:bV),(⟨([115,117,115,112,101,110,100]:Str),([110]:Str),[2],(some 55)⟩:bV),(⟨([114,101,115,117,109,101]:Str),([110,112]:Str),[3],(some 54)⟩:bV),(⟨([99,108,111,115,101]:Str),([110]:Str),[2,3],(some 56)⟩:bV),(⟨([99,97,110,99,101,108]:Str),([110]:Str),[0,1],(some 57)⟩:bV),(⟨([103,97,115]:Str),([115,111,103]:Str),([]:(List Int)),(some 58)⟩:bV),(⟨([101,110,116,101,114]:Str),([112,115]:Str),([]:(List Int)),(some 59)⟩:bV),(⟨([108,101,97,118,101]:Str),([112]:Str),([]:(List Int)),(some 60)⟩:bV),(⟨([97,108,97,114,109]:Str),([115]:Str),([]:(List Int)),(some 61)⟩:bV),(⟨([101,120,116,101,110,100]:Str),([110,112,116]:Str),[1,2,3],(some 62)⟩:bV)]
def zh (N:Nat) (x0:Int):Option (Bool) :=
  some ((aC .geq x0 0)&&(aC .leq x0 1000000))
def Ah (N:Nat) (x0:(Option (ah×Value×Value×Value))) (x1:cu):Option ((List Str)×Int) :=
  (zM N).bind fun v1=>bif (Option.isNone x0) then (some ([],1)) else ((bif (!((aC .lss x1.Op 0)||(aC .geq x1.Op (List.length v1:Int)))) then (zh N x1.At) else some false).bind fun v2=>bif (((aC .lss x1.Op 0)||(aC .geq x1.Op (List.length v1:Int)))||(!v2)) then (some ([],2)) else (none))
def Bq (N:Nat) (x0:(Option (ah×Value×Value×Value))) (x1:(aQ→Option Bool)):Option ((List Str)) :=
  none
def lH (N:Nat) (x0:aQ):Option (Bool) :=
  some true
def Bv (N:Nat) (x0:(Option (ah×Value×Value×Value))):Option ((List Str)) :=
  bif (Option.isNone x0) then (some []) else ((Bq N x0 (fun y0=>lH N y0)).bind fun v1=>some v1)
def wZ (N:Nat) (x0:dH) (c0:Int) (c1:aQ) (c2:aQ):Option (Bool) :=
  some ((aC .leq c0 x0.Reach)&&(((aC .eql x0.A c1.Kind)&&(aC .eql x0.B c2.Kind))||((aC .eql x0.A c2.Kind)&&(aC .eql x0.B c1.Kind))))
def wJ (N:Nat) (x0:ax) (x1:aQ) (x2:aQ):Option (Bool) :=
  bif (Bf .eql x1.Name x2.Name) then (some false) else ((vV N x0 x1.Space x2.Space).bind fun v1=>(fJ N x0.aW (fun y0=>wZ N y0 v1 x1 x2)).bind fun v2=>some v2)
def xg (N:Nat) (x0:aQ) (c0:Str):Option (Bool) :=
  some (Bf .eql x0.Name c0)
def lu (N:Nat) (x0:(List aQ)) (x1:(aQ→Option Bool)):Option (Bool) :=
  (jl N x0 x1).bind fun v1=>some (aC .geq v1 0)
def tH (N:Nat) (x1:(List aQ)) (v2:aQ) (s13:Int):Option (Int ⊕ (Unit ⊕ Bool)) :=
  bif (aC .lss s13 (List.length v2.Locks:Int)) then ((idx v2.Locks s13).bind fun v14=>(lu N x1 (fun y0=>xg N y0 v14)).bind fun v15=>bif (!v15) then (some (.inr (Sum.inr false))) else (some (.inl (IntKind.i64.wrap (s13+1))))) else (some (.inr (Sum.inl ())))
def tC (N:Nat) (x0:ax) (v2:aQ) (v3:(List aQ)) (s4:Int):Option (Int ⊕ (Unit ⊕ Bool)) :=
  bif (aC .lss s4 (List.length v3:Int)) then ((idx v3 s4).bind fun v5=>(wJ N x0 v2 v5).bind fun v6=>bif v6 then (some (.inr (Sum.inr false))) else (some (.inl (IntKind.i64.wrap (s4+1))))) else (some (.inr (Sum.inl ())))
def tu (N:Nat) (x0:ax) (x1:(List aQ)) (s1:Int):Option (Int ⊕ (Unit ⊕ Bool)) :=
  bif (aC .lss s1 (List.length x1:Int)) then ((idx x1 s1).bind fun v2=>(TL x1 0 s1).bind fun v3=>(dh (tC N x0 v2 v3) N 0).bind fun o9=>Sum.elim (fun l11=>(dh (tH N x1 v2) N 0).bind fun o18=>Sum.elim (fun l20=>some (.inl (IntKind.i64.wrap (s1+1)))) (fun r21=>some (.inr (Sum.inr r21))) o18) (fun r12=>some (.inr (Sum.inr r12))) o9) else (some (.inr (Sum.inl ())))
def yP (N:Nat) (x0:ax) (x1:(List aQ)):Option (Bool) :=
  (dh (tu N x0 x1) N 0).bind fun Zr=>Sum.elim (fun l27=>some true) (fun r28=>some r28) Zr
def qO (N:Nat) (x0:ax) (x1:(List Str)) (s2:((List aQ)×Int)):Option (((List aQ)×Int) ⊕ ((List aQ) ⊕ (Bool×Int))) :=
  bif (aC .lss s2.2 (List.length x1:Int)) then ((idx x1 s2.2).bind fun v3=>(oh N x0 v3).bind fun v4=>bif (!v4.2) then (some (.inr (Sum.inr (false,6)))) else ((TL x1 0 s2.2).bind fun v5=>(dQ N v5 v3).bind fun v6=>bif v6 then (some (.inr (Sum.inr (false,5)))) else ((app s2.1 [v4.1]).bind fun v7=>some (.inl (v7,(IntKind.i64.wrap (s2.2+1))))))) else (some (.inr (Sum.inl s2.1)))
def uo (N:Nat) (x0:ax) (x1:(List Str)):Option (Bool×Int) :=
  (vz N x0).bind fun v1=>bif (aC .neq v1 0) then (some (false,v1)) else ((dh (qO N x0 x1) N ([],0)).bind fun Lj=>Sum.elim (fun l13=>(yP N x0 l13).bind fun v15=>some (v15,0)) (fun r14=>some (r14.1,r14.2)) Lj)
def uK (N:Nat) (x0:Str) (c0:(Option (ah×Value×Value×Value))):Option (Bool) :=
  none
def zN (N:Nat) (x0:(Option (ah×Value×Value×Value))) (x1:(Str→Option Bool)):Option ((List Str)) :=
  none
def zO (N:Nat) (x0:(Option (ah×Value×Value×Value))):Option ((List Str)) :=
  bif (Option.isNone x0) then (some []) else ((zN N x0 (fun y0=>uK N y0 x0)).bind fun v1=>some v1)
def yQ (N:Nat) (x0:GWork) (x1:Str) (s1:Int):Option (Int ⊕ (Unit ⊕ Int)) :=
  bif (aC .lss s1 (List.length x0.Items:Int)) then ((idx x0.Items s1).bind fun v2=>bif (Bf .eql v2.Name x1) then (some (.inr (Sum.inr s1))) else (some (.inl (IntKind.i64.wrap (s1+1))))) else (some (.inr (Sum.inl ())))
def yc (N:Nat) (x0:GWork) (x1:Str):Option (Int) :=
  (dh (yQ N x0 x1) N 0).bind fun o5=>Sum.elim (fun l7=>some (-1)) (fun r8=>some r8) o5
def yK (N:Nat) (x0:(List oV)) (x1:Str) (x2:Int) (s1:Int):Option (Int ⊕ (Unit ⊕ Bool)) :=
  bif (aC .lss s1 (List.length x0:Int)) then ((idx x0 s1).bind fun v2=>(bif (Bf .eql v2.Item x1) then (idx x0 s1) else some (⟨[],[],0,0,0⟩:oV)).bind fun v3=>(bif ((Bf .eql v2.Item x1)&&(aC .geq x2 (IntKind.i64.wrap (1440 * v3.From)))) then (idx x0 s1) else some (⟨[],[],0,0,0⟩:oV)).bind fun v4=>bif (((Bf .eql v2.Item x1)&&(aC .geq x2 (IntKind.i64.wrap (1440 * v3.From))))&&(aC .lss x2 (IntKind.i64.wrap (1440 * v4.To)))) then (some (.inr (Sum.inr true))) else (some (.inl (IntKind.i64.wrap (s1+1))))) else (some (.inr (Sum.inl ())))
def BI (N:Nat) (x0:(List oV)) (x1:Str) (x2:Int):Option (Bool) :=
  (dh (yK N x0 x1 x2) N 0).bind fun o7=>Sum.elim (fun l9=>some false) (fun r10=>some r10) o7
def Ai (N:Nat) (g0:ah) (aP:(List (Str×ai))) (aH:(List (Str×au))) (aJ:(List (Str×Str))) (x1:cu):Option ay :=
  some (⟨[],0⟩:ay)
def kU (N:Nat) (x0:Int) (x1:(List Str)):Option (ay) :=
  some (⟨x1,x0⟩:ay)
def rf (N:Nat) (g0:ah) (aP:(List (Str×ai))) (aH:(List (Str×au))) (aJ:(List (Str×Str))) (x1:cu):Option ((List (Str×ai))×ay) :=
  (su N x1.Person).bind fun v1=>bif (!v1) then ((kU N 4 ([]:(List Str))).bind fun v2=>some (aP,v2)) else (some ((tX aP x1.Name ({ ({ (jD (⟨0,[],0⟩:ai) aP x1.Name) with state:=1 }:ai) with N9:=x1.Person }:ai)),(⟨[],0⟩:ay)))
def uI (N:Nat) (g0:ah) (aP:(List (Str×ai))) (aH:(List (Str×au))) (aJ:(List (Str×Str))) (x1:aQ):Option aQ :=
  some x1
def oG (N:Nat) (g0:ah) (aP:(List (Str×ai))) (aH:(List (Str×au))) (aJ:(List (Str×Str))) (x0:aQ) (c1:aQ):Option Bool :=
  (wJ N g0.plan x0 c1).bind fun v1=>some v1
def iP (N:Nat) (g0:ah) (aP:(List (Str×ai))) (aH:(List (Str×au))) (aJ:(List (Str×Str))) (qY:aQ) (s1:((List Str)×Int)):Option (((List Str)×Int) ⊕ (List Str)) :=
  bif (aC .lss s1.2 (List.length g0.plan.aO:Int)) then ((idx g0.plan.aO s1.2).bind fun v2=>(fZ N g0 aP aH aJ v2.Name [2]).bind fun v3=>(bif v3 then (oG N g0 aP aH aJ v2 qY) else some false).bind fun v4=>bif (v3&&v4) then ((app s1.1 [v2.Name]).bind fun v5=>some (.inl (v5,(IntKind.i64.wrap (s1.2+1))))) else (some (.inl (s1.1,(IntKind.i64.wrap (s1.2+1)))))) else (some (.inr s1.1))
def jY (N:Nat) (g0:ah) (aP:(List (Str×ai))) (aH:(List (Str×au))) (aJ:(List (Str×Str))) (qY:aQ):Option (List Str) :=
  (dh (iP N g0 aP aH aJ qY) N ([],0)).bind fun o8=>some o8
def qf (N:Nat) (g0:ah) (aP:(List (Str×ai))) (aH:(List (Str×au))) (x0:Str) (c1:aQ):Option Bool :=
  (vV N g0.plan x0 c1.Space).bind fun v1=>some (aC .leq v1 1)
def lJ (N:Nat) (x0:(List Str)):Option ((List Str)):=Ur x0
def je (N:Nat) (g0:ah) (aP:(List (Str×ai))) (aH:(List (Str×au))) (qY:aQ) (s2:(List Str)) (p3:(Str×Str)):Option (List Str) :=
  (qf N g0 aP aH p3.2 qY).bind fun v5=>bif v5 then ((app s2 [p3.1]).bind fun v6=>some v6) else (some s2)
def jI (N:Nat) (g0:ah) (aP:(List (Str×ai))) (aH:(List (Str×au))) (aJ:(List (Str×Str))) (qY:aQ):Option (List Str) :=
  JO aJ fun q4p=>(KI (je N g0 aP aH qY) q4p []).bind fun s2=>(lJ N s2).bind fun v8=>some v8
def iC {S:Type} (N:Nat) (Y:S→dG→Option (S×Bool)) (o8:(List dG)) (s10:(Int×S)):Option ((Int×S) ⊕ (S ⊕ S)) :=
  bif (aC .lss s10.1 (List.length o8:Int)) then ((idx o8 s10.1).bind fun v11=>(bif (aC .gtr (List.length v11.Names:Int) 0) then (Y s10.2 v11) else some (s10.2,false)).bind fun v12=>bif ((aC .gtr (List.length v11.Names:Int) 0)&&(!v12.2)) then (some (.inr (Sum.inr v12.1))) else (some (.inl ((IntKind.i64.wrap (s10.1+1)),v12.1)))) else (some (.inr (Sum.inl s10.2)))
def lX {S:Type} (N:Nat) (Y:S→dG→Option (S×Bool)) (y0:S) (g0:ah) (aP:(List (Str×ai))) (aH:(List (Str×au))) (aJ:(List (Str×Str))) (c1:aQ):Option S :=
  (bif (aC .lss g0.now c1.From) then (Y y0 (⟨2,[]⟩:dG)) else some (y0,false)).bind fun v1=>bif ((aC .lss g0.now c1.From)&&(!v1.2)) then (some v1.1) else ((lZ N g0 aP aH aJ c1).bind fun v2=>(jY N g0 aP aH aJ c1).bind fun v3=>(oL N g0 aP aH aJ c1).bind fun v4=>((bif (aC .eql c1.Kind 3) then ((jI N g0 aP aH aJ c1).bind fun v5=>(app [(⟨18,v2⟩:dG),(⟨20,v3⟩:dG),(⟨21,v4⟩:dG)] [(⟨17,v5⟩:dG)]).bind fun v6=>some v6) else (some [(⟨18,v2⟩:dG),(⟨20,v3⟩:dG),(⟨21,v4⟩:dG)])):Option (List dG)).bind fun o8=>(dh (iC N Y o8) N (0,v1.1)).bind fun TD=>Sum.elim (fun l17=>some l17) (fun r18=>some r18) TD)
def jV (N:Nat) (s7:ay) (i8:dG):Option (ay×Option Nat) :=
  (kU N i8.Err i8.Names).bind fun v12=>some (v12,some 0)
def qm (N:Nat) (g0:ah) (aP:(List (Str×ai))) (aH:(List (Str×au))) (aJ:(List (Str×Str))) (x1:cu):Option ((List (Str×ai))×ay) :=
  (su N x1.Person).bind fun v1=>bif (!v1) then ((kU N 4 ([]:(List Str))).bind fun v2=>some (aP,v2)) else (bif (Bf .eql x1.Person ((jD (⟨0,[],0⟩:ai) aP x1.Name).N9)) then ((kU N 26 ([]:(List Str))).bind fun v3=>some (aP,v3)) else ((oh N g0.plan x1.Name).bind fun v4=>(uI N g0 aP aH aJ v4.1).bind fun v5=>(lX N (yl (jV N) 1) ((⟨[],0⟩:ay),none) g0 aP aH aJ v5).bind fun X6=>O9 X6 (fun V4=>(fK N g0 aP aH aJ x1.Name 2).bind fun v14=>some (v14,(⟨[],0⟩:ay))) (fun V4=>some (aP,V4))))
def yH (N:Nat) (g0:ah) (aP:(List (Str×ai))) (aH:(List (Str×au))) (aJ:(List (Str×Str))) (x1:cu):Option ((List (Str×ai))×ay) :=
  (fK N g0 aP aH aJ x1.Name 3).bind fun v1=>some (v1,(⟨[],0⟩:ay))
def kN (N:Nat) (x0:aQ) (c0:aQ):Option (Bool) :=
  (dQ N x0.Locks c0.Name).bind fun v1=>some v1
def oK (N:Nat) (g0:ah) (aP:(List (Str×ai))) (aH:(List (Str×au))) (aJ:(List (Str×Str))) (x1:(aQ→Option Bool)) (s1:((List Str)×Int)):Option (((List Str)×Int) ⊕ (List Str)) :=
  bif (aC .lss s1.2 (List.length g0.plan.aO:Int)) then ((idx g0.plan.aO s1.2).bind fun v2=>(fZ N g0 aP aH aJ v2.Name [2]).bind fun v3=>(bif v3 then (x1 v2) else some false).bind fun v4=>bif (v3&&v4) then ((app s1.1 [v2.Name]).bind fun v5=>some (.inl (v5,(IntKind.i64.wrap (s1.2+1))))) else (some (.inl (s1.1,(IntKind.i64.wrap (s1.2+1)))))) else (some (.inr s1.1))
def jG (N:Nat) (g0:ah) (aP:(List (Str×ai))) (aH:(List (Str×au))) (aJ:(List (Str×Str))) (x1:(aQ→Option Bool)):Option (List Str) :=
  (dh (oK N g0 aP aH aJ x1) N ([],0)).bind fun o8=>some o8
def kP (N:Nat) (x0:aQ) (c0:aQ):Option (Bool) :=
  some (((aC .eql x0.Kind 1)&&(Bf .eql x0.Space c0.Space))&&(Bf .neq x0.Name c0.Name))
def kQ (N:Nat) (x0:Str) (c0:aQ):Option (Bool) :=
  some (Bf .eql x0 c0.Space)
def oZ (N:Nat) (x1:(Str→Option Bool)) (s2:(List Str)) (p3:(Str×Str)):Option (List Str) :=
  (x1 p3.2).bind fun v5=>bif v5 then ((app s2 [p3.1]).bind fun v6=>some v6) else (some s2)
def mV (N:Nat) (g0:ah) (aP:(List (Str×ai))) (aH:(List (Str×au))) (aJ:(List (Str×Str))) (x1:(Str→Option Bool)):Option (List Str) :=
  JO aJ fun q4p=>(KI (oZ N x1) q4p []).bind fun s2=>(lJ N s2).bind fun v8=>some v8
def pI (N:Nat) (g0:ah) (aP:(List (Str×ai))) (aH:(List (Str×au))) (aJ:(List (Str×Str))) (x1:cu):Option ((List (Str×ai))×ay) :=
  (oh N g0.plan x1.Name).bind fun v1=>(jX N g0.plan v1.1.Space).bind fun v2=>((bif (aC .eql v1.1.Kind 5) then ((jG N g0 aP aH aJ (fun y0=>kN N y0 v1.1)).bind fun v3=>bif (aC .gtr (List.length v3:Int) 0) then ((kU N 20 v3).bind fun v4=>some (Sum.inr v4)) else (some (Sum.inl (⟨[],0⟩:ay)))) else ((bif (aC .eql v1.1.Kind 1) then (fZ N g0 aP aH aJ v1.1.Name [2]) else some false).bind fun v6=>bif (((aC .eql v1.1.Kind 1)&&v6)&&v2.1.fU) then ((jG N g0 aP aH aJ (fun y0=>kP N y0 v1.1)).bind fun v7=>(mV N g0 aP aH aJ (fun y0=>kQ N y0 v1.1)).bind fun v8=>bif ((aC .eql (List.length v7:Int) 0)&&(aC .gtr (List.length v8:Int) 0)) then ((kU N 21 v8).bind fun v9=>some (Sum.inr v9)) else (some (Sum.inl (⟨[],0⟩:ay)))) else (some (Sum.inl (⟨[],0⟩:ay))))):Option (ay ⊕ ay)).bind fun X6=>Sum.elim (fun l15=>(fK N g0 aP aH aJ x1.Name 4).bind fun v17=>some (v17,(⟨[],0⟩:ay))) (fun r16=>some (aP,r16)) X6
def zf (N:Nat) (g0:ah) (aP:(List (Str×ai))) (aH:(List (Str×au))) (aJ:(List (Str×Str))) (x1:cu):Option ((List (Str×ai))×ay) :=
  (fK N g0 aP aH aJ x1.Name 5).bind fun v1=>some (v1,(⟨[],0⟩:ay))
def uQ (N:Nat) (g0:ah) (aP:(List (Str×ai))) (aH:(List (Str×au))) (aJ:(List (Str×Str))) (x1:cu):Option ((List (Str×au))×ay) :=
  (jX N g0.plan x1.Space).bind fun v1=>bif (!v1.2) then ((kU N 6 ([]:(List Str))).bind fun v2=>some (aH,v2)) else (bif ((((aC .lss x1.Bo 0)||(aC .gtr x1.Bo 1000))||(aC .lss x1.V7 0))||(aC .gtr x1.V7 1000)) then ((kU N 2 ([]:(List Str))).bind fun v3=>some (aH,v3)) else (some ((tX aH x1.Space (⟨g0.now,x1.Bo,x1.V7⟩:au)),(⟨[],0⟩:ay))))
def jv (N:Nat) (x0:aQ) (c0:Str):Option (Bool) :=
  some ((aC .eql x0.Kind 1)&&(Bf .eql x0.Space c0))
def rZ (N:Nat) (g0:ah) (aP:(List (Str×ai))) (aH:(List (Str×au))) (aJ:(List (Str×Str))) (x1:Str):Option Bool :=
  (jG N g0 aP aH aJ (fun y0=>jv N y0 x1)).bind fun v1=>some (aC .gtr (List.length v1:Int) 0)
def rq (N:Nat) (g0:ah) (aP:(List (Str×ai))) (aH:(List (Str×au))) (aJ:(List (Str×Str))) (x0:aQ) (c1:dK):Option Bool :=
  (bif (aC .eql x0.Kind 3) then (vV N g0.plan x0.Space c1.Name) else some 0).bind fun v1=>some ((aC .eql x0.Kind 3)&&(aC .leq v1 1))
def jk (N:Nat) (g0:ah) (aP:(List (Str×ai))) (aH:(List (Str×au))) (aJ:(List (Str×Str))) (qY:dK) (s1:((List Str)×Int)):Option (((List Str)×Int) ⊕ (List Str)) :=
  bif (aC .lss s1.2 (List.length g0.plan.aO:Int)) then ((idx g0.plan.aO s1.2).bind fun v2=>(fZ N g0 aP aH aJ v2.Name [2]).bind fun v3=>(bif v3 then (rq N g0 aP aH aJ v2 qY) else some false).bind fun v4=>bif (v3&&v4) then ((app s1.1 [v2.Name]).bind fun v5=>some (.inl (v5,(IntKind.i64.wrap (s1.2+1))))) else (some (.inl (s1.1,(IntKind.i64.wrap (s1.2+1)))))) else (some (.inr s1.1))
def lg (N:Nat) (g0:ah) (aP:(List (Str×ai))) (aH:(List (Str×au))) (aJ:(List (Str×Str))) (qY:dK):Option (List Str) :=
  (dh (jk N g0 aP aH aJ qY) N ([],0)).bind fun o8=>some o8
def sV (N:Nat) (g0:ah) (aP:(List (Str×ai))) (aH:(List (Str×au))) (aJ:(List (Str×Str))) (x1:cu):Option ((List (Str×Str))×ay) :=
  (su N x1.Person).bind fun v1=>bif (!v1) then ((kU N 4 ([]:(List Str))).bind fun v2=>some (aJ,v2)) else ((jX N g0.plan x1.Space).bind fun v3=>bif (!v3.2) then ((kU N 6 ([]:(List Str))).bind fun v4=>some (aJ,v4)) else (bif (qM aJ x1.Person) then ((kU N 18 ([]:(List Str))).bind fun v5=>some (aJ,v5)) else ((bif v3.1.fU then (rZ N g0 aP aH aJ v3.1.Name) else some false).bind fun v6=>bif (v3.1.fU&&(!v6)) then ((kU N 21 ([]:(List Str))).bind fun v7=>some (aJ,v7)) else ((lg N g0 aP aH aJ v3.1).bind fun v8=>bif (aC .gtr (List.length v8:Int) 0) then ((kU N 17 v8).bind fun v9=>some (aJ,v9)) else (some ((tX aJ x1.Person v3.1.Name),(⟨[],0⟩:ay)))))))
def sZ (N:Nat) (g0:ah) (aP:(List (Str×ai))) (aH:(List (Str×au))) (aJ:(List (Str×Str))) (x1:cu):Option ((List (Str×Str))×ay) :=
  (su N x1.Person).bind fun v1=>bif (!v1) then ((kU N 4 ([]:(List Str))).bind fun v2=>some (aJ,v2)) else (bif (!(qM aJ x1.Person)) then ((kU N 6 ([]:(List Str))).bind fun v3=>some (aJ,v3)) else (some ((KQ aJ x1.Person),(⟨[],0⟩:ay))))
def qX (N:Nat) (g0:ah) (aP:(List (Str×ai))) (aH:(List (Str×au))) (aJ:(List (Str×Str))) (x0:aQ) (c1:cu):Option Bool :=
  (bif (aC .neq x0.Kind 5) then (vV N g0.plan x0.Space c1.Space) else some 0).bind fun v1=>some ((aC .neq x0.Kind 5)&&(aC .leq v1 1))
def ji (N:Nat) (g0:ah) (aP:(List (Str×ai))) (aH:(List (Str×au))) (aJ:(List (Str×Str))) (qY:cu) (s1:((List Str)×Int)):Option (((List Str)×Int) ⊕ (List Str)) :=
  bif (aC .lss s1.2 (List.length g0.plan.aO:Int)) then ((idx g0.plan.aO s1.2).bind fun v2=>(fZ N g0 aP aH aJ v2.Name [2]).bind fun v3=>(bif v3 then (qX N g0 aP aH aJ v2 qY) else some false).bind fun v4=>bif (v3&&v4) then ((app s1.1 [v2.Name]).bind fun v5=>some (.inl (v5,(IntKind.i64.wrap (s1.2+1))))) else (some (.inl (s1.1,(IntKind.i64.wrap (s1.2+1)))))) else (some (.inr s1.1))
def kZ (N:Nat) (g0:ah) (aP:(List (Str×ai))) (aH:(List (Str×au))) (aJ:(List (Str×Str))) (qY:cu):Option (List Str) :=
  (dh (ji N g0 aP aH aJ qY) N ([],0)).bind fun o8=>some o8
def lY (N:Nat) (g0:ah) (aH:(List (Str×au))) (aJ:(List (Str×Str))) (v3:(List Str)) (s4:(Int×(List (Str×ai)))):Option ((Int×(List (Str×ai))) ⊕ (List (Str×ai))) :=
  bif (aC .lss s4.1 (List.length v3:Int)) then ((idx v3 s4.1).bind fun v5=>(fK N g0 s4.2 aH aJ v5 3).bind fun v6=>some (.inl ((IntKind.i64.wrap (s4.1+1)),v6))) else (some (.inr s4.2))
def tq (N:Nat) (g0:ah) (aP:(List (Str×ai))) (aH:(List (Str×au))) (aJ:(List (Str×Str))) (x1:cu):Option ((List (Str×ai))×ay) :=
  (jX N g0.plan x1.Space).bind fun v1=>bif (!v1.2) then ((kU N 6 ([]:(List Str))).bind fun v2=>some (aP,v2)) else ((kZ N g0 aP aH aJ x1).bind fun v3=>(dh (lY N g0 aH aJ v3) N (0,aP)).bind fun o8=>some (o8,(⟨[],0⟩:ay)))
def rY (N:Nat) (g0:ah) (aP:(List (Str×ai))) (aH:(List (Str×au))) (aJ:(List (Str×Str))) (x1:cu):Option ((List (Str×ai))×ay) :=
  (su N x1.Person).bind fun v1=>bif (!v1) then ((kU N 4 ([]:(List Str))).bind fun v2=>some (aP,v2)) else (bif ((aC .leq x1.To ((jD (⟨0,[],0⟩:ai) aP x1.Name).Es))||(aC .gtr x1.To 1000000)) then ((kU N 2 ([]:(List Str))).bind fun v3=>some (aP,v3)) else (some ((tX aP x1.Name ({ (jD (⟨0,[],0⟩:ai) aP x1.Name) with Es:=x1.To }:ai)),(⟨[],0⟩:ay))))
def Jp (N:Nat) (g0:ah) (aP:(List (Str×ai))) (aH:(List (Str×au))) (aJ:(List (Str×Str))) (n:(Option Nat)) (x1:cu):Option ((List (Str×ai))×(List (Str×au))×(List (Str×Str))×ay) :=
  bif decide (n=some 52) then ((Ai N g0 aP aH aJ x1).bind fun y=>some (aP,aH,aJ,y)) else (bif decide (n=some 53) then ((rf N g0 aP aH aJ x1).bind fun y=>some (y.1,aH,aJ,y.2)) else (bif decide (n=some 54) then ((qm N g0 aP aH aJ x1).bind fun y=>some (y.1,aH,aJ,y.2)) else (bif decide (n=some 55) then ((yH N g0 aP aH aJ x1).bind fun y=>some (y.1,aH,aJ,y.2)) else (bif decide (n=some 56) then ((pI N g0 aP aH aJ x1).bind fun y=>some (y.1,aH,aJ,y.2)) else (bif decide (n=some 57) then ((zf N g0 aP aH aJ x1).bind fun y=>some (y.1,aH,aJ,y.2)) else (bif decide (n=some 58) then ((uQ N g0 aP aH aJ x1).bind fun y=>some (aP,y.1,aJ,y.2)) else (bif decide (n=some 59) then ((sV N g0 aP aH aJ x1).bind fun y=>some (aP,aH,y.1,y.2)) else (bif decide (n=some 60) then ((sZ N g0 aP aH aJ x1).bind fun y=>some (aP,aH,y.1,y.2)) else (bif decide (n=some 61) then ((tq N g0 aP aH aJ x1).bind fun y=>some (y.1,aH,aJ,y.2)) else (bif decide (n=some 62) then ((rY N g0 aP aH aJ x1).bind fun y=>some (y.1,aH,aJ,y.2)) else (none)))))))))))
def oD (N:Nat) (g0:ah) (aP:(List (Str×ai))) (aH:(List (Str×au))) (aJ:(List (Str×Str))) (x1:cu):Option (ah×(List (Str×ai))×(List (Str×au))×(List (Str×Str))×(List Str)×Int) :=
  (zM N).bind fun v1=>(bif (!((aC .lss x1.Op 0)||(aC .geq x1.Op (List.length v1:Int)))) then (zh N x1.At) else some false).bind fun v2=>bif (((aC .lss x1.Op 0)||(aC .geq x1.Op (List.length v1:Int)))||(!v2)) then (some (g0,aP,aH,aJ,[],2)) else (bif (aC .lss x1.At g0.now) then (some (g0,aP,aH,aJ,[],10)) else ((lT N ({ g0 with now:=x1.At }:ah) aP aH aJ).bind fun v3=>(idx v1 x1.Op).bind fun v4=>((bif (!(List.isEmpty v4.states)) then ((oh N (({ g0 with now:=x1.At }:ah).plan) x1.Name).bind fun v5=>bif (!v5.2) then (some (Sum.inr ([],6))) else ((fZ N ({ g0 with now:=x1.At }:ah) v3 aH aJ x1.Name v4.states).bind fun v6=>bif (!v6) then (some (Sum.inr ([],18))) else (some (Sum.inl ())))) else (some (Sum.inl ()))):Option (Unit ⊕ ((List Str)×Int))).bind fun VR=>Sum.elim (fun l12=>(Jp N ({ g0 with now:=x1.At }:ah) v3 aH aJ v4.TT x1).bind fun v14=>bif (aC .neq v14.2.2.2.e 0) then (some (({ g0 with now:=x1.At }:ah),v14.1,v14.2.1,v14.2.2.1,v14.2.2.2.names,v14.2.2.2.e)) else ((lT N ({ g0 with now:=x1.At }:ah) v14.1 v14.2.1 v14.2.2.1).bind fun v15=>(app (({ g0 with now:=x1.At }:ah).done) [x1]).bind fun v16=>some (({ ({ g0 with now:=x1.At }:ah) with done:=v16 }:ah),v15,v14.2.1,v14.2.2.1,[],0))) (fun r13=>some (({ g0 with now:=x1.At }:ah),v3,aH,aJ,r13.1,r13.2)) VR))
def qN (N:Nat) (g0:ah) (aP:(List (Str×ai))) (aH:(List (Str×au))) (aJ:(List (Str×Str))):Option (List Str) :=
  (jG N g0 aP aH aJ (fun y0=>lH N y0)).bind fun v1=>some v1
def zK (N:Nat) (g0:ah) (aP:(List (Str×ai))) (aH:(List (Str×au))) (x1:Str) (x2:(List Int)):Option Bool :=
  (kD N x2 ((jD (⟨0,[],0⟩:ai) aP x1).state)).bind fun v1=>some v1
def wU (N:Nat) (g0:ah) (aP:(List (Str×ai))) (aH:(List (Str×au))) (x1:(aQ→Option Bool)) (s1:((List Str)×Int)):Option (((List Str)×Int) ⊕ (List Str)) :=
  bif (aC .lss s1.2 (List.length g0.plan.aO:Int)) then ((idx g0.plan.aO s1.2).bind fun v2=>(zK N g0 aP aH v2.Name [2]).bind fun v3=>(bif v3 then (x1 v2) else some false).bind fun v4=>bif (v3&&v4) then ((app s1.1 [v2.Name]).bind fun v5=>some (.inl (v5,(IntKind.i64.wrap (s1.2+1))))) else (some (.inl (s1.1,(IntKind.i64.wrap (s1.2+1)))))) else (some (.inr s1.1))
def yF (N:Nat) (g0:ah) (aP:(List (Str×ai))) (aH:(List (Str×au))) (x1:(aQ→Option Bool)):Option (List Str) :=
  (dh (wU N g0 aP aH x1) N ([],0)).bind fun o8=>some o8
def xC (N:Nat) (g0:ah) (aP:(List (Str×ai))) (aH:(List (Str×au))) (x1:Str):Option Bool :=
  (yF N g0 aP aH (fun y0=>jv N y0 x1)).bind fun v1=>some (aC .gtr (List.length v1:Int) 0)
def vg (N:Nat) (g0:ah) (aP:(List (Str×ai))) (aH:(List (Str×au))) (x0:Str):Option Bool :=
  (jX N g0.plan x0).bind fun v1=>(bif v1.1.fU then (xC N g0 aP aH x0) else some false).bind fun v2=>some (v1.1.fU&&(!v2))
def kW (N:Nat) (g0:ah) (aP:(List (Str×ai))) (aH:(List (Str×au))) (s2:(List Str)) (p3:(Str×Str)):Option (List Str) :=
  (vg N g0 aP aH p3.2).bind fun v5=>bif v5 then ((app s2 [p3.1]).bind fun v6=>some v6) else (some s2)
def lI (N:Nat) (g0:ah) (aP:(List (Str×ai))) (aH:(List (Str×au))) (aJ:(List (Str×Str))):Option (List Str) :=
  JO aJ fun q4p=>(KI (kW N g0 aP aH) q4p []).bind fun s2=>(lJ N s2).bind fun v8=>some v8
def qZ (N:Nat) (g0:ah) (aP:(List (Str×ai))) (aH:(List (Str×au))) (aJ:(List (Str×Str))):Option (List Str) :=
  (lI N g0 aP aH aJ).bind fun v1=>some v1
def y5 (N:Nat) (x0:GWork) (v5:((List oV)×Int)) (v19:oV) (v22:(List Str)) (s25:Int):Option (Int ⊕ (Unit ⊕ Bool)) :=
  bif (aC .lss s25 (List.length v22:Int)) then ((idx v22 s25).bind fun v26=>(yc N x0 v26).bind fun v27=>(bif (!(aC .lss v27 0)) then (idx v22 s25) else some []).bind fun v28=>(bif (!(aC .lss v27 0)) then (BI N v5.1 v28 (IntKind.i64.wrap (1440 * v19.From))) else some false).bind fun v29=>bif ((aC .lss v27 0)||(!v29)) then (some (.inr (Sum.inr false))) else (some (.inl (IntKind.i64.wrap (s25+1))))) else (some (.inr (Sum.inl ())))
def yZ (N:Nat) (x0:GWork) (v5:((List oV)×Int)) (v6:ax) (XJ:Int):Option (Int ⊕ (Unit ⊕ Bool)) :=
  bif (aC .lss XJ (List.length v5.1:Int)) then ((idx v5.1 XJ).bind fun v19=>(idx v5.1 XJ).bind fun v20=>(Ah N (none:(Option (ah×Value×Value×Value))) (⟨(IntKind.i64.wrap (1440 * v19.From)),2,v20.Item,[],([98,111,98]:Str),0,0,0⟩:cu)).bind fun v21=>bif (aC .neq v21.2 0) then (some (.inr (Sum.inr false))) else ((Bv N (none:(Option (ah×Value×Value×Value)))).bind fun v22=>(uo N v6 v22).bind fun v23=>(bif (!((aC .neq v23.2 0)||(!v23.1))) then (zO N (none:(Option (ah×Value×Value×Value)))) else some []).bind fun v24=>bif (((aC .neq v23.2 0)||(!v23.1))||(aC .gtr (List.length v24:Int) 0)) then (some (.inr (Sum.inr false))) else ((dh (y5 N x0 v5 v19 v22) N 0).bind fun o32=>Sum.elim (fun l34=>some (.inl (IntKind.i64.wrap (XJ+1)))) (fun r35=>some (.inr (Sum.inr r35))) o32))) else (some (.inr (Sum.inl ())))
def yY (N:Nat) (v5:((List oV)×Int)) (s9:Int):Option (Int ⊕ (Unit ⊕ Bool)) :=
  bif (aC .lss s9 (List.length v5.1:Int)) then ((idx v5.1 s9).bind fun v10=>(Ah N (none:(Option (ah×Value×Value×Value))) (⟨0,1,v10.Item,[],([97,110,110]:Str),0,0,0⟩:cu)).bind fun v11=>bif (aC .neq v11.2 0) then (some (.inr (Sum.inr false))) else (some (.inl (IntKind.i64.wrap (s9+1))))) else (some (.inr (Sum.inl ())))
def pG (N:Nat) (x0:GWork) (v5:((List oV)×Int)) (v65:oV) (v68:(List Str)) (s71:Int):Option (Int ⊕ (Unit ⊕ Bool)) :=
  bif (aC .lss s71 (List.length v68:Int)) then ((idx v68 s71).bind fun v72=>(yc N x0 v72).bind fun v73=>(bif (!(aC .lss v73 0)) then (idx v68 s71) else some []).bind fun v74=>(bif (!(aC .lss v73 0)) then (BI N v5.1 v74 (IntKind.i64.wrap (1440 * v65.From))) else some false).bind fun v75=>bif ((aC .lss v73 0)||(!v75)) then (some (.inr (Sum.inr false))) else (some (.inl (IntKind.i64.wrap (s71+1))))) else (some (.inr (Sum.inl ())))
def nH (N:Nat) (x0:GWork) (v5:((List oV)×Int)) (v6:ax) (Nh:(Int×ah×(List (Str×ai))×(List (Str×au))×(List (Str×Str)))):Option ((Int×ah×(List (Str×ai))×(List (Str×au))×(List (Str×Str))) ⊕ ((ah×(List (Str×ai))×(List (Str×au))×(List (Str×Str))) ⊕ (Bool×ah×(List (Str×ai))×(List (Str×au))×(List (Str×Str))))) :=
  bif (aC .lss Nh.1 (List.length v5.1:Int)) then ((idx v5.1 Nh.1).bind fun v65=>(idx v5.1 Nh.1).bind fun v66=>(oD N Nh.2.1 Nh.2.2.1 Nh.2.2.2.1 Nh.2.2.2.2 (⟨(IntKind.i64.wrap (1440 * v65.From)),2,v66.Item,[],([98,111,98]:Str),0,0,0⟩:cu)).bind fun v67=>bif (aC .neq v67.2.2.2.2.2 0) then (some (.inr (Sum.inr (false,v67.1,v67.2.1,v67.2.2.1,v67.2.2.2.1)))) else ((qN N v67.1 v67.2.1 v67.2.2.1 v67.2.2.2.1).bind fun v68=>(uo N v6 v68).bind fun v69=>(bif (!((aC .neq v69.2 0)||(!v69.1))) then (qZ N v67.1 v67.2.1 v67.2.2.1 v67.2.2.2.1) else some []).bind fun v70=>bif (((aC .neq v69.2 0)||(!v69.1))||(aC .gtr (List.length v70:Int) 0)) then (some (.inr (Sum.inr (false,v67.1,v67.2.1,v67.2.2.1,v67.2.2.2.1)))) else ((dh (pG N x0 v5 v65 v68) N 0).bind fun o78=>Sum.elim (fun l80=>some (.inl ((IntKind.i64.wrap (Nh.1+1)),v67.1,v67.2.1,v67.2.2.1,v67.2.2.2.1))) (fun r81=>some (.inr (Sum.inr (r81,v67.1,v67.2.1,v67.2.2.1,v67.2.2.2.1)))) o78))) else (some (.inr (Sum.inl (Nh.2.1,Nh.2.2.1,Nh.2.2.2.1,Nh.2.2.2.2))))
def nG (N:Nat) (v5:((List oV)×Int)) (PX:(Int×ah×(List (Str×ai))×(List (Str×au))×(List (Str×Str)))):Option ((Int×ah×(List (Str×ai))×(List (Str×au))×(List (Str×Str))) ⊕ ((ah×(List (Str×ai))×(List (Str×au))×(List (Str×Str))) ⊕ (Bool×ah×(List (Str×ai))×(List (Str×au))×(List (Str×Str))))) :=
  bif (aC .lss PX.1 (List.length v5.1:Int)) then ((idx v5.1 PX.1).bind fun v56=>(oD N PX.2.1 PX.2.2.1 PX.2.2.2.1 PX.2.2.2.2 (⟨0,1,v56.Item,[],([97,110,110]:Str),0,0,0⟩:cu)).bind fun v57=>bif (aC .neq v57.2.2.2.2.2 0) then (some (.inr (Sum.inr (false,v57.1,v57.2.1,v57.2.2.1,v57.2.2.2.1)))) else (some (.inl ((IntKind.i64.wrap (PX.1+1)),v57.1,v57.2.1,v57.2.2.1,v57.2.2.2.1)))) else (some (.inr (Sum.inl (PX.2.1,PX.2.2.1,PX.2.2.2.1,PX.2.2.2.2))))
def yw (N:Nat) (x0:GWork) (x1:(List GSlot)):Option (Bool) :=
  (Cf N x0 12).bind fun v1=>(bif (!(!v1)) then (EL N x1) else some false).bind fun v2=>(bif (!((!v1)||(!v2))) then (wz N x0 x1) else some 0).bind fun v3=>bif (((!v1)||(!v2))||(aC .neq v3 0)) then ((xM N).bind fun v4=>some v4) else ((Az N x0 x1).bind fun v5=>(Dx N x0 v5.1).bind fun v6=>(x9 N v6).bind fun v7=>RP v7 (fun Zk=>bif (aC .neq v5.2 0) then (some false) else (bif (aC .neq Zk 0) then ((bif ((aC .eql Zk 3)||(aC .eql Zk 8)) then (xM N) else some false).bind fun v8=>some (((aC .eql Zk 3)||(aC .eql Zk 8))&&v8)) else ((dh (yY N v5) N 0).bind fun o14=>Sum.elim (fun l16=>(dh (yZ N x0 v5 v6) N 0).bind fun o40=>Sum.elim (fun l42=>(xM N).bind fun v44=>some v44) (fun r43=>some r43) o40) (fun r17=>some r17) o14))) (fun D8 Zk=>bif (aC .neq v5.2 0) then (some false) else (bif (aC .neq Zk 0) then ((bif ((aC .eql Zk 3)||(aC .eql Zk 8)) then (xM N) else some false).bind fun v54=>some (((aC .eql Zk 3)||(aC .eql Zk 8))&&v54)) else ((dh (nG N v5) N (0,D8.1,D8.2.1,D8.2.2.1,D8.2.2.2)).bind fun o60=>Sum.elim (fun Z8=>(dh (nH N x0 v5 v6) N (0,Z8.1,Z8.2.1,Z8.2.2.1,Z8.2.2.2)).bind fun o86=>Sum.elim (fun l88=>(xM N).bind fun v90=>some v90) (fun r89=>some r89.1) o86) (fun r63=>some r63.1) o60))))
end
end Go.KB
