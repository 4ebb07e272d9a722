/- The functions as plain Lean functions. Printed by a program. No condition. -/
import Derived.Test.YtdmioehoinnamaaGreatDoorGTypes
import Derived.Test.YtdmioehoinnamaaGreatDoorKZh
namespace Go.KB
set_option linter.unusedVariables false
noncomputable section
def uI (N:Nat) (x0:(List Str)) (s1:Int):Option (Int ⊕ (Unit ⊕ Bool)) :=
  bif (ax .lss s1 (List.length x0:Int)) then ((idx x0 s1).bind fun v2=>bif (ax .gtr (List.length v2:Int) 40) then (some (.inr (Sum.inr false))) else (some (.inl (IntKind.i64.wrap (s1+1))))) else (some (.inr (Sum.inl ())))
def xQ (N:Nat) (x0:(List Str)):Option (Bool) :=
  (bM (uI N x0) N 0).bind fun o5=>Sum.elim (fun l7=>some true) (fun r8=>some r8) o5
def uM (N:Nat) (x0:GWork) (s20:Int):Option (Int ⊕ (Unit ⊕ Bool)) :=
  bif (ax .lss s20 (List.length x0.Items:Int)) then ((idx x0.Items s20).bind fun v21=>(bif (!(((((ax .gtr (List.length v21.Name:Int) 40)||(ax .gtr (List.length v21.iq:Int) 40))||(ax .gtr (List.length v21.Space:Int) 40))||(ax .gtr (List.length v21.Modes:Int) 6))||(ax .gtr (List.length v21.After:Int) 12))) then (xQ N v21.After) else some false).bind fun v22=>bif ((((((ax .gtr (List.length v21.Name:Int) 40)||(ax .gtr (List.length v21.iq:Int) 40))||(ax .gtr (List.length v21.Space:Int) 40))||(ax .gtr (List.length v21.Modes:Int) 6))||(ax .gtr (List.length v21.After:Int) 12))||(!v22)) then (some (.inr (Sum.inr false))) else (some (.inl (IntKind.i64.wrap (s20+1))))) else (some (.inr (Sum.inl ())))
def uK (N:Nat) (x0:GWork) (s9:Int):Option (Int ⊕ (Unit ⊕ Bool)) :=
  bif (ax .lss s9 (List.length x0.dh:Int)) then ((idx x0.dh s9).bind fun v10=>(bif (!(ax .gtr (List.length v10.Name:Int) 40)) then (idx x0.dh s9) else some (⟨[],false,[]⟩:jF)).bind fun v11=>(bif (!((ax .gtr (List.length v10.Name:Int) 40)||(ax .gtr (List.length v11.Next:Int) 20))) then (idx x0.dh s9) else some (⟨[],false,[]⟩:jF)).bind fun v12=>(bif (!((ax .gtr (List.length v10.Name:Int) 40)||(ax .gtr (List.length v11.Next:Int) 20))) then (xQ N v12.Next) else some false).bind fun v13=>bif (((ax .gtr (List.length v10.Name:Int) 40)||(ax .gtr (List.length v11.Next:Int) 20))||(!v13)) then (some (.inr (Sum.inr false))) else (some (.inl (IntKind.i64.wrap (s9+1))))) else (some (.inr (Sum.inl ())))
def uJ (N:Nat) (x0:GWork) (s1:Int):Option (Int ⊕ (Unit ⊕ Bool)) :=
  bif (ax .lss s1 (List.length x0.aY:Int)) then ((idx x0.aY s1).bind fun v2=>bif (ax .gtr (List.length v2.Name:Int) 40) then (some (.inr (Sum.inr false))) else (some (.inl (IntKind.i64.wrap (s1+1))))) else (some (.inr (Sum.inl ())))
def y8 (N:Nat) (x0:GWork) (x1:Int):Option (Bool) :=
  bif ((((((ax .gtr (List.length x0.aY:Int) 8)||(ax .gtr (List.length x0.dh:Int) 14))||(ax .gtr (List.length x0.bD:Int) 32))||(ax .gtr (List.length x0.dm:Int) 22))||((ax .gtr (List.length x0.Items:Int) x1)&&(ax .leq (List.length x0.Items:Int) 40)))||(ax .gtr (List.length x0.Items:Int) 45)) then (some false) else ((bM (uJ N x0) N 0).bind fun o5=>Sum.elim (fun l7=>(bM (uK N x0) N 0).bind fun o16=>Sum.elim (fun l18=>(bM (uM N x0) N 0).bind fun o25=>Sum.elim (fun l27=>some true) (fun r28=>some r28) o25) (fun r19=>some r19) o16) (fun r8=>some r8) o5)
def AB (N:Nat) (x0:Str) (s1:Int):Option (Int ⊕ (Unit ⊕ Bool)) :=
  bif (ax .lss s1 (List.length x0:Int)) then ((idx x0 s1).bind fun v2=>bif ((!(((ax .geq ((UInt8.toNat v2:Nat):Int) 97)&&(ax .leq ((UInt8.toNat v2:Nat):Int) 122))||((ax .geq ((UInt8.toNat v2:Nat):Int) 65)&&(ax .leq ((UInt8.toNat v2:Nat):Int) 90))))&&((ax .eql s1 0)||((ax .neq ((UInt8.toNat v2:Nat):Int) 45)&&((ax .lss ((UInt8.toNat v2:Nat):Int) 48)||(ax .gtr ((UInt8.toNat v2:Nat):Int) 57))))) then (some (.inr (Sum.inr false))) else (some (.inl (IntKind.i64.wrap (s1+1))))) else (some (.inr (Sum.inl ())))
def xR (N:Nat) (x0:Str):Option (Bool) :=
  bif ((ax .lss (List.length x0:Int) 1)||(ax .gtr (List.length x0:Int) 12)) then (some false) else ((bM (AB N x0) N 0).bind fun o5=>Sum.elim (fun l7=>some true) (fun r8=>some r8) o5)
def uY (N:Nat) (x0:GWork) (x1:Str) (s1:Int):Option (Int ⊕ (Unit ⊕ Int)) :=
  bif (ax .lss s1 (List.length x0.aY:Int)) then ((idx x0.aY s1).bind fun v2=>bif (yR .eql v2.Name x1) then (some (.inr (Sum.inr s1))) else (some (.inl (IntKind.i64.wrap (s1+1))))) else (some (.inr (Sum.inl ())))
def vK (N:Nat) (x0:GWork) (x1:Str):Option (Int) :=
  (bM (uY N x0 x1) N 0).bind fun o5=>Sum.elim (fun l7=>some (-1)) (fun r8=>some r8) o5
def gW (N:Nat) (x0:Int) (x1:Int) (x2:Int):Option (Bool) :=
  some ((ax .geq x0 x1)&&(ax .leq x0 x2))
def oI (N:Nat) (x0:GWork) (s1:Int):Option (Int ⊕ (Unit ⊕ Int)) :=
  bif (ax .lss s1 (List.length x0.aY:Int)) then ((idx x0.aY s1).bind fun v2=>(xR N v2.Name).bind fun v3=>bif (!v3) then (some (.inr (Sum.inr 4))) else ((vK N x0 v2.Name).bind fun v4=>bif (ax .neq v4 s1) then (some (.inr (Sum.inr 5))) else ((gW N v2.gB 0 1000).bind fun v5=>(bif (!(!v5)) then (gW N v2.Ih 0 1000000) else some false).bind fun v6=>bif ((!v5)||(!v6)) then (some (.inr (Sum.inr 2))) else (some (.inl (IntKind.i64.wrap (s1+1))))))) else (some (.inr (Sum.inl ())))
def ug (N:Nat) (x0:GWork):Option (Int) :=
  bif (ax .gtr (List.length x0.aY:Int) 6) then (some 8) else ((bM (oI N x0) N 0).bind fun NG=>Sum.elim (fun Zc=>some 0) (fun QG=>some QG) NG)
def uZ (N:Nat) (x0:GWork) (x1:Str) (s1:Int):Option (Int ⊕ (Unit ⊕ Int)) :=
  bif (ax .lss s1 (List.length x0.dh:Int)) then ((idx x0.dh s1).bind fun v2=>bif (yR .eql v2.Name x1) then (some (.inr (Sum.inr s1))) else (some (.inl (IntKind.i64.wrap (s1+1))))) else (some (.inr (Sum.inl ())))
def tV (N:Nat) (x0:GWork) (x1:Str):Option (Int) :=
  (bM (uZ N x0 x1) N 0).bind fun o5=>Sum.elim (fun l7=>some (-1)) (fun r8=>some r8) o5
def oK (N:Nat) (x0:GWork) (v2:jF) (s5:Int):Option (Int ⊕ (Unit ⊕ Int)) :=
  bif (ax .lss s5 (List.length v2.Next:Int)) then ((idx v2.Next s5).bind fun v6=>(tV N x0 v6).bind fun v7=>bif (ax .lss v7 0) then (some (.inr (Sum.inr 6))) else (some (.inl (IntKind.i64.wrap (s5+1))))) else (some (.inr (Sum.inl ())))
def oM (N:Nat) (x0:GWork) (s33:Int):Option (Int ⊕ (Unit ⊕ Int)) :=
  bif (ax .lss s33 (List.length x0.dm:Int)) then ((idx x0.dm s33).bind fun v34=>(gW N v34.From 0 400).bind fun v35=>(bif (!(!v35)) then (gW N v34.To 0 400) else some false).bind fun v36=>bif ((!v35)||(!v36)) then (some (.inr (Sum.inr 2))) else (bif (ax .leq v34.To v34.From) then (some (.inr (Sum.inr 10))) else (some (.inl (IntKind.i64.wrap (s33+1)))))) else (some (.inr (Sum.inl ())))
def oL (N:Nat) (x0:GWork) (s22:Int):Option (Int ⊕ (Unit ⊕ Int)) :=
  bif (ax .lss s22 (List.length x0.bD:Int)) then ((idx x0.bD s22).bind fun v23=>(gW N v23.A 0 5).bind fun v24=>(bif (!(!v24)) then (gW N v23.B 0 5) else some false).bind fun v25=>(bif (!((!v24)||(!v25))) then (gW N v23.Reach 0 2) else some false).bind fun v26=>bif (((!v24)||(!v25))||(!v26)) then (some (.inr (Sum.inr 2))) else (some (.inl (IntKind.i64.wrap (s22+1))))) else (some (.inr (Sum.inl ())))
def oJ (N:Nat) (x0:GWork) (s1:Int):Option (Int ⊕ (Unit ⊕ Int)) :=
  bif (ax .lss s1 (List.length x0.dh:Int)) then ((idx x0.dh s1).bind fun v2=>(xR N v2.Name).bind fun v3=>bif (!v3) then (some (.inr (Sum.inr 4))) else ((tV N x0 v2.Name).bind fun v4=>bif (ax .neq v4 s1) then (some (.inr (Sum.inr 5))) else ((bM (oK N x0 v2) N 0).bind fun Dp=>Sum.elim (fun l12=>some (.inl (IntKind.i64.wrap (s1+1)))) (fun r13=>some (.inr (Sum.inr r13))) Dp))) else (some (.inr (Sum.inl ())))
def uh (N:Nat) (x0:GWork):Option (Int) :=
  bif (ax .gtr (List.length x0.dh:Int) 12) then (some 8) else ((bM (oJ N x0) N 0).bind fun VI=>Sum.elim (fun l20=>bif (ax .gtr (List.length x0.bD:Int) 30) then (some 8) else ((bM (oL N x0) N 0).bind fun o29=>Sum.elim (fun l31=>bif (ax .gtr (List.length x0.dm:Int) 20) then (some 8) else ((bM (oM N x0) N 0).bind fun o40=>Sum.elim (fun l42=>some 0) (fun r43=>some r43) o40)) (fun r32=>some r32) o29)) (fun r21=>some r21) VI)
def vT (N:Nat) (x0:GWork) (x1:Str) (s1:Int):Option (Int ⊕ (Unit ⊕ Int)) :=
  bif (ax .lss s1 (List.length x0.Items:Int)) then ((idx x0.Items s1).bind fun v2=>bif (yR .eql v2.Name x1) then (some (.inr (Sum.inr s1))) else (some (.inl (IntKind.i64.wrap (s1+1))))) else (some (.inr (Sum.inl ())))
def ve (N:Nat) (x0:GWork) (x1:Str):Option (Int) :=
  (bM (vT N x0 x1) N 0).bind fun o5=>Sum.elim (fun l7=>some (-1)) (fun r8=>some r8) o5
def nX (N:Nat) (x0:GWork) (x1:bU) (s16:Int):Option (Int ⊕ (Unit ⊕ Int)) :=
  bif (ax .lss s16 (List.length x1.After:Int)) then ((idx x1.After s16).bind fun v17=>(ve N x0 v17).bind fun v18=>bif (ax .lss v18 0) then (some (.inr (Sum.inr 6))) else ((idx x1.After s16).bind fun v19=>bif (yR .eql v19 x1.Name) then (some (.inr (Sum.inr 3))) else (some (.inl (IntKind.i64.wrap (s16+1)))))) else (some (.inr (Sum.inl ())))
def qI (N:Nat) (x0:GWork) (x1:bU) (v1:Int) (s2:Int):Option (Int ⊕ (Unit ⊕ Int)) :=
  bif (ax .lss s2 (List.length x1.Modes:Int)) then ((idx x1.Modes s2).bind fun v3=>(gW N v3.iH 1 60).bind fun v4=>(bif (!(!v4)) then (gW N v3.gB 0 1000) else some false).bind fun v5=>bif ((!v4)||(!v5)) then (some (.inr (Sum.inr 2))) else ((idx x0.aY v1).bind fun v6=>bif (ax .gtr v3.gB v6.gB) then (some (.inr (Sum.inr 23))) else (some (.inl (IntKind.i64.wrap (s2+1)))))) else (some (.inr (Sum.inl ())))
def vU (N:Nat) (x0:GWork) (x1:bU):Option (Int) :=
  (vK N x0 x1.iq).bind fun v1=>bif (ax .lss v1 0) then (some 6) else (bif ((ax .lss (List.length x1.Modes:Int) 1)||(ax .gtr (List.length x1.Modes:Int) 3)) then (some 2) else ((bM (qI N x0 x1 v1) N 0).bind fun Dp=>Sum.elim (fun l12=>(bif (yR .neq x1.Space ([]:Str)) then (tV N x0 x1.Space) else some 0).bind fun v14=>bif ((yR .neq x1.Space ([]:Str))&&(ax .lss v14 0)) then (some 6) else ((gW N x1.Kind (-1) 5).bind fun v15=>bif (!v15) then (some 2) else (bif ((ax .neq x1.Kind (-1))&&(yR .eql x1.Space ([]:Str))) then (some 3) else ((bM (nX N x0 x1) N 0).bind fun Zb=>Sum.elim (fun l25=>some 0) (fun r26=>some r26) Zb)))) (fun r13=>some r13) Dp))
def uN (N:Nat) (x0:(List Str)) (x1:Str) (s1:Int):Option (Int ⊕ (Unit ⊕ Bool)) :=
  bif (ax .lss s1 (List.length x0:Int)) then ((idx x0 s1).bind fun v2=>bif (yR .eql v2 x1) then (some (.inr (Sum.inr true))) else (some (.inl (IntKind.i64.wrap (s1+1))))) else (some (.inr (Sum.inl ())))
def xU (N:Nat) (x0:(List Str)) (x1:Str):Option (Bool) :=
  (bM (uN N x0 x1) N 0).bind fun o5=>Sum.elim (fun l7=>some false) (fun r8=>some r8) o5
def rV (N:Nat) (x0:GWork) (s1:(List Str)) (s2:(Int×Int)) (s5:(Bool×Int)):Option ((Bool×Int) ⊕ Bool) :=
  (idx x0.Items s2.2).bind fun v6=>bif (ax .lss s5.2 (List.length v6.After:Int)) then ((bif s5.1 then (idx x0.Items s2.2) else some (⟨[],[],[],[],0,false,[]⟩:bU)).bind fun v7=>(bif s5.1 then (idx v7.After s5.2) else some []).bind fun v8=>(bif s5.1 then (xU N s1 v8) else some false).bind fun v9=>some (.inl ((s5.1&&v9),(IntKind.i64.wrap (s5.2+1))))) else (some (.inr s5.1))
def oN (N:Nat) (x0:GWork) (s1:(List Str)) (s2:(Int×Int)):Option ((Int×Int) ⊕ Int) :=
  bif ((ax .lss s2.2 (List.length x0.Items:Int))&&(ax .lss s2.1 0)) then ((idx x0.Items s2.2).bind fun v3=>(xU N s1 v3.Name).bind fun v4=>(bM (rV N x0 s1 s2) N ((!v4),0)).bind fun NG=>bif NG then (some (.inl (s2.2,(IntKind.i64.wrap (s2.2+1))))) else (some (.inl (s2.1,(IntKind.i64.wrap (s2.2+1)))))) else (some (.inr s2.1))
def kZ (N:Nat) (x0:GWork) (s1:(List Str)):Option ((List Str) ⊕ (List Str)) :=
  (bM (oN N x0 s1) N ((-1),0)).bind fun o16=>bif (ax .lss o16 0) then (some (.inr s1)) else ((idx x0.Items o16).bind fun v18=>(app s1 [v18.Name]).bind fun v19=>some (.inl v19))
def xW (N:Nat) (x0:GWork):Option ((List Str)) :=
  (bM (kZ N x0) N []).bind fun Qj=>some Qj
def qJ (N:Nat) (x0:GWork) (s3:Int):Option (Int ⊕ (Unit ⊕ Int)) :=
  bif (ax .lss s3 (List.length x0.Items:Int)) then ((idx x0.Items s3).bind fun v4=>(xR N v4.Name).bind fun v5=>bif (!v5) then (some (.inr (Sum.inr 4))) else ((idx x0.Items s3).bind fun v6=>(ve N x0 v6.Name).bind fun v7=>bif (ax .neq v7 s3) then (some (.inr (Sum.inr 5))) else ((idx x0.Items s3).bind fun v8=>(vU N x0 v8).bind fun v9=>bif (ax .neq v9 0) then (some (.inr (Sum.inr v9))) else (some (.inl (IntKind.i64.wrap (s3+1))))))) else (some (.inr (Sum.inl ())))
def qQ (N:Nat) (x0:GWork):Option (Int) :=
  (ug N x0).bind fun v1=>bif (ax .neq v1 0) then (some v1) else ((uh N x0).bind fun v2=>bif (ax .neq v2 0) then (some v2) else (bif (ax .gtr (List.length x0.Items:Int) 40) then (some 8) else ((bM (qJ N x0) N 0).bind fun RV=>Sum.elim (fun l16=>(gW N x0.FN 0 1000000000).bind fun v18=>(bif (!(!v18)) then (gW N x0.Late 0 1000000000) else some false).bind fun v19=>(bif (!((!v18)||(!v19))) then (gW N x0.Due 0 400) else some false).bind fun v20=>(bif (!(((!v18)||(!v19))||(!v20))) then (gW N x0.Last 0 400) else some false).bind fun v21=>bif ((((!v18)||(!v19))||(!v20))||(!v21)) then (some 2) else ((xW N x0).bind fun v22=>bif (ax .lss (List.length v22:Int) (List.length x0.Items:Int)) then (some 22) else (some 0))) (fun r17=>some r17) RV)))
def wE (N:Nat) (x0:GWork):Option (Int) :=
  bif ((ax .gtr (List.length x0.Items:Int) 8)||(ax .gtr x0.Last 60)) then (some 8) else (some 0)
def uO (N:Nat) (x0:GWork) (s4:Int):Option (Int ⊕ (Unit ⊕ Bool)) :=
  bif (ax .lss s4 (List.length x0.Items:Int)) then ((idx x0.Items s4).bind fun v5=>bif (ax .gtr (List.length v5.Modes:Int) 2) then (some (.inr (Sum.inr false))) else (some (.inl (IntKind.i64.wrap (s4+1))))) else (some (.inr (Sum.inl ())))
def y9 (N:Nat) (x0:GWork):Option (Bool) :=
  (y8 N x0 12).bind fun v1=>bif (!v1) then (some false) else ((qQ N x0).bind fun v2=>(bif (!(ax .neq v2 0)) then (wE N x0) else some 0).bind fun v3=>bif ((ax .neq v2 0)||(ax .neq v3 0)) then (some true) else (bif ((ax .gtr (List.length x0.Items:Int) 3)||(ax .gtr x0.Last 6)) then (some false) else ((bM (uO N x0) N 0).bind fun o8=>Sum.elim (fun l10=>some true) (fun r11=>some r11) o8)))
def sQ (N:Nat) (x0:(List GSlot)) (s1:Int):Option (Int ⊕ (Unit ⊕ Bool)) :=
  bif ((ax .lss s1 (List.length x0:Int))&&(ax .leq (List.length x0:Int) 50)) then ((idx x0 s1).bind fun v2=>bif (ax .gtr (List.length v2.Item:Int) 40) then (some (.inr (Sum.inr false))) else (some (.inl (IntKind.i64.wrap (s1+1))))) else (some (.inr (Sum.inl ())))
def AY (N:Nat) (x0:(List GSlot)):Option (Bool) :=
  (bM (sQ N x0) N 0).bind fun o5=>Sum.elim (fun l7=>some (ax .leq (List.length x0:Int) 50)) (fun r8=>some r8) o5
def pV (N:Nat) (x1:(List GSlot)) (s1:Int) (s4:Int):Option (Int ⊕ (Unit ⊕ Int)) :=
  bif (ax .lss s4 s1) then ((idx x1 s4).bind fun v5=>(idx x1 s1).bind fun v6=>bif (yR .eql v5.Item v6.Item) then (some (.inr (Sum.inr 5))) else (some (.inl (IntKind.i64.wrap (s4+1))))) else (some (.inr (Sum.inl ())))
def pU (N:Nat) (x0:GWork) (x1:(List GSlot)) (s1:Int):Option (Int ⊕ (Unit ⊕ Int)) :=
  bif (ax .lss s1 (List.length x1:Int)) then ((idx x1 s1).bind fun v2=>(ve N x0 v2.Item).bind fun v3=>bif (ax .lss v3 0) then (some (.inr (Sum.inr 6))) else ((bM (pV N x1 s1) N 0).bind fun o9=>Sum.elim (fun l11=>(idx x1 s1).bind fun v13=>(idx x0.Items v3).bind fun v14=>(gW N v13.Mode 0 (IntKind.i64.wrap ((List.length v14.Modes:Int) - 1))).bind fun v15=>(bif (!(!v15)) then (idx x1 s1) else some (⟨[],0,0⟩:GSlot)).bind fun v16=>(bif (!(!v15)) then (gW N v16.Day 0 400) else some false).bind fun v17=>bif ((!v15)||(!v17)) then (some (.inr (Sum.inr 2))) else (some (.inl (IntKind.i64.wrap (s1+1))))) (fun r12=>some (.inr (Sum.inr r12))) o9)) else (some (.inr (Sum.inl ())))
def uV (N:Nat) (x0:GWork) (x1:(List GSlot)):Option (Int) :=
  bif (ax .neq (List.length x1:Int) (List.length x0.Items:Int)) then (some 11) else ((bM (pU N x0 x1) N 0).bind fun Qj=>Sum.elim (fun l24=>some 0) (fun r25=>some r25) Qj)
def kE (N:Nat) (x0:(List iD)) (x1:(iD→Option Str)) (s1:((List Str)×Int)):Option (((List Str)×Int) ⊕ (List Str)) :=
  bif (ax .lss s1.2 (List.length x0:Int)) then ((idx x0 s1.2).bind fun v2=>(x1 v2).bind fun v3=>(app s1.1 [v3]).bind fun v4=>some (.inl (v4,(IntKind.i64.wrap (s1.2+1))))) else (some (.inr s1.1))
def rq (N:Nat) (x0:(List iD)) (x1:(iD→Option Str)):Option ((List Str)) :=
  (bM (kE N x0 x1) N ([],0)).bind fun o6=>some o6
def nD (N:Nat) (x0:iD):Option (Str) :=
  some x0.Name
def jw (N:Nat) (x0:GWork):Option ((List Str)) :=
  (rq N x0.aY (fun y0=>nD N y0)).bind fun v1=>some v1
def fQ (N:Nat) (x0:Int) (x1:Int):Option (Bool) :=
  some ((ax .geq x0 0)&&(ax .leq x0 x1))
def lM (N:Nat) (x0:Int) (c0:GWork):Option (Int) :=
  (idx c0.aY x0).bind fun v1=>(fQ N v1.gB 1000).bind fun v2=>(bif (!(!v2)) then (idx c0.aY x0) else some (⟨[],0,0⟩:iD)).bind fun v3=>(bif (!(!v2)) then (fQ N v3.Ih 1000000) else some false).bind fun v4=>bif ((!v2)||(!v4)) then (some 2) else (some 0)
def yE (N:Nat) (x0:Str) (s1:Int):Option (Int ⊕ (Unit ⊕ Bool)) :=
  bif (ax .lss s1 (List.length x0:Int)) then ((idx x0 s1).bind fun v2=>bif ((!(((ax .geq ((UInt8.toNat v2:Nat):Int) 97)&&(ax .leq ((UInt8.toNat v2:Nat):Int) 122))||((ax .geq ((UInt8.toNat v2:Nat):Int) 65)&&(ax .leq ((UInt8.toNat v2:Nat):Int) 90))))&&((ax .eql s1 0)||((ax .neq ((UInt8.toNat v2:Nat):Int) 45)&&((ax .lss ((UInt8.toNat v2:Nat):Int) 48)||(ax .gtr ((UInt8.toNat v2:Nat):Int) 57))))) then (some (.inr (Sum.inr false))) else (some (.inl (IntKind.i64.wrap (s1+1))))) else (some (.inr (Sum.inl ())))
def yh (N:Nat) (x0:Str):Option (Bool) :=
  bif ((ax .lss (List.length x0:Int) 1)||(ax .gtr (List.length x0:Int) 12)) then (some false) else ((bM (yE N x0) N 0).bind fun o5=>Sum.elim (fun l7=>some true) (fun r8=>some r8) o5)
def gX (N:Nat) (x0:(List Str)) (x1:Str) (s1:Int):Option (Int ⊕ (Unit ⊕ Int)) :=
  bif (ax .lss s1 (List.length x0:Int)) then ((idx x0 s1).bind fun v2=>bif (yR .eql x1 v2) then (some (.inr (Sum.inr s1))) else (some (.inl (IntKind.i64.wrap (s1+1))))) else (some (.inr (Sum.inl ())))
def eG (N:Nat) (x0:(List Str)) (x1:Str):Option (Int) :=
  (bM (gX N x0 x1) N 0).bind fun o5=>Sum.elim (fun l7=>some (-1)) (fun r8=>some r8) o5
def dZ (N:Nat) (x0:(List Str)) (x1:Str):Option (Bool) :=
  (eG N x0 x1).bind fun v1=>some (ax .geq v1 0)
def qX (N:Nat) (x0:(List Str)) (x2:(Int→Option Int)) (s1:Int):Option (Int ⊕ (Unit ⊕ Int)) :=
  bif (ax .lss s1 (List.length x0:Int)) then ((idx x0 s1).bind fun v2=>(yh N v2).bind fun v3=>bif (!v3) then (some (.inr (Sum.inr 4))) else ((WV x0 0 s1).bind fun v4=>(dZ N v4 v2).bind fun v5=>bif v5 then (some (.inr (Sum.inr 5))) else ((x2 s1).bind fun v6=>bif (ax .neq v6 0) then (some (.inr (Sum.inr v6))) else (some (.inl (IntKind.i64.wrap (s1+1))))))) else (some (.inr (Sum.inl ())))
def rU (N:Nat) (x0:(List Str)) (x1:Int) (x2:(Int→Option Int)):Option (Int) :=
  bif (ax .gtr (List.length x0:Int) x1) then (some 8) else ((bM (qX N x0 x2) N 0).bind fun NG=>Sum.elim (fun Zc=>some 0) (fun QG=>some QG) NG)
def kF (N:Nat) (x0:(List jF)) (x1:(jF→Option Str)) (s1:((List Str)×Int)):Option (((List Str)×Int) ⊕ (List Str)) :=
  bif (ax .lss s1.2 (List.length x0:Int)) then ((idx x0 s1.2).bind fun v2=>(x1 v2).bind fun v3=>(app s1.1 [v3]).bind fun v4=>some (.inl (v4,(IntKind.i64.wrap (s1.2+1))))) else (some (.inr s1.1))
def ru (N:Nat) (x0:(List jF)) (x1:(jF→Option Str)):Option ((List Str)) :=
  (bM (kF N x0 x1) N ([],0)).bind fun o6=>some o6
def nG (N:Nat) (x0:jF):Option (Str) :=
  some x0.Name
def mM (N:Nat) (x0:GWork):Option ((List Str)) :=
  (ru N x0.dh (fun y0=>nG N y0)).bind fun v1=>some v1
def qi (N:Nat) (x0:Str) (c0:(List Str)):Option (Bool) :=
  (dZ N c0 x0).bind fun v1=>some (!v1)
def jc (N:Nat) (x0:(List Str)) (x1:(Str→Option Bool)) (s1:Int):Option (Int ⊕ (Unit ⊕ Int)) :=
  bif (ax .lss s1 (List.length x0:Int)) then ((idx x0 s1).bind fun v2=>(x1 v2).bind fun v3=>bif v3 then (some (.inr (Sum.inr s1))) else (some (.inl (IntKind.i64.wrap (s1+1))))) else (some (.inr (Sum.inl ())))
def mZ (N:Nat) (x0:(List Str)) (x1:(Str→Option Bool)):Option (Int) :=
  (bM (jc N x0 x1) N 0).bind fun o6=>Sum.elim (fun l8=>some (-1)) (fun r9=>some r9) o6
def jL (N:Nat) (x0:(List Str)) (x1:(Str→Option Bool)):Option (Bool) :=
  (mZ N x0 x1).bind fun v1=>some (ax .geq v1 0)
def lN (N:Nat) (x0:Int) (c0:GWork) (c1:(List Str)):Option (Int) :=
  (idx c0.dh x0).bind fun v1=>(jL N v1.Next (fun y0=>qi N y0 c1)).bind fun v2=>bif v2 then (some 6) else (some 0)
def oG (N:Nat) (x0:GWork) (s12:Int):Option (Int ⊕ (Unit ⊕ Int)) :=
  bif (ax .lss s12 (List.length x0.dm:Int)) then ((idx x0.dm s12).bind fun v13=>(fQ N v13.From 400).bind fun v14=>(bif (!(!v14)) then (fQ N v13.To 400) else some false).bind fun v15=>bif ((!v14)||(!v15)) then (some (.inr (Sum.inr 2))) else (bif (ax .leq v13.To v13.From) then (some (.inr (Sum.inr 10))) else (some (.inl (IntKind.i64.wrap (s12+1)))))) else (some (.inr (Sum.inl ())))
def oD (N:Nat) (x0:GWork) (s1:Int):Option (Int ⊕ (Unit ⊕ Int)) :=
  bif (ax .lss s1 (List.length x0.bD:Int)) then ((idx x0.bD s1).bind fun v2=>(fQ N v2.A 5).bind fun v3=>(bif (!(!v3)) then (fQ N v2.B 5) else some false).bind fun v4=>(bif (!((!v3)||(!v4))) then (fQ N v2.Reach 2) else some false).bind fun v5=>bif (((!v3)||(!v4))||(!v5)) then (some (.inr (Sum.inr 2))) else (some (.inl (IntKind.i64.wrap (s1+1))))) else (some (.inr (Sum.inl ())))
def uf (N:Nat) (x0:GWork):Option (Int) :=
  bif (ax .gtr (List.length x0.bD:Int) 30) then (some 8) else ((bM (oD N x0) N 0).bind fun o8=>Sum.elim (fun l10=>bif (ax .gtr (List.length x0.dm:Int) 20) then (some 8) else ((bM (oG N x0) N 0).bind fun NF=>Sum.elim (fun l21=>some 0) (fun r22=>some r22) NF)) (fun r11=>some r11) o8)
def kQ (N:Nat) (x0:(List bU)) (x1:(bU→Option Str)) (s1:((List Str)×Int)):Option (((List Str)×Int) ⊕ (List Str)) :=
  bif (ax .lss s1.2 (List.length x0:Int)) then ((idx x0 s1.2).bind fun v2=>(x1 v2).bind fun v3=>(app s1.1 [v3]).bind fun v4=>some (.inl (v4,(IntKind.i64.wrap (s1.2+1))))) else (some (.inr s1.1))
def rZ (N:Nat) (x0:(List bU)) (x1:(bU→Option Str)):Option ((List Str)) :=
  (bM (kQ N x0 x1) N ([],0)).bind fun o6=>some o6
def oH (N:Nat) (x0:bU):Option (Str) :=
  some x0.Name
def lH (N:Nat) (x0:GWork):Option ((List Str)) :=
  (rZ N x0.Items (fun y0=>oH N y0)).bind fun v1=>some v1
def pY (N:Nat) (x1:bU) (x2:(List Str)) (s16:Int):Option (Int ⊕ (Unit ⊕ Int)) :=
  bif (ax .lss s16 (List.length x1.After:Int)) then ((idx x1.After s16).bind fun v17=>(dZ N x2 v17).bind fun v18=>bif (!v18) then (some (.inr (Sum.inr 6))) else (bif (yR .eql v17 x1.Name) then (some (.inr (Sum.inr 3))) else (some (.inl (IntKind.i64.wrap (s16+1)))))) else (some (.inr (Sum.inl ())))
def pX (N:Nat) (x0:GWork) (x1:bU) (v2:Int) (s3:Int):Option (Int ⊕ (Unit ⊕ Int)) :=
  bif (ax .lss s3 (List.length x1.Modes:Int)) then ((idx x1.Modes s3).bind fun v4=>(bif (!((ax .lss v4.iH 1)||(ax .gtr v4.iH 60))) then (fQ N v4.gB 1000) else some false).bind fun v5=>bif (((ax .lss v4.iH 1)||(ax .gtr v4.iH 60))||(!v5)) then (some (.inr (Sum.inr 2))) else ((idx x0.aY v2).bind fun v6=>bif (ax .gtr v4.gB v6.gB) then (some (.inr (Sum.inr 23))) else (some (.inl (IntKind.i64.wrap (s3+1)))))) else (some (.inr (Sum.inl ())))
def uX (N:Nat) (x0:GWork) (x1:bU) (x2:(List Str)):Option (Int) :=
  (jw N x0).bind fun v1=>(eG N v1 x1.iq).bind fun v2=>bif (ax .lss v2 0) then (some 6) else (bif ((ax .lss (List.length x1.Modes:Int) 1)||(ax .gtr (List.length x1.Modes:Int) 3)) then (some 2) else ((bM (pX N x0 x1 v2) N 0).bind fun Dp=>Sum.elim (fun l12=>(bif (yR .neq x1.Space ([]:Str)) then (mM N x0) else some []).bind fun v14=>(bif (yR .neq x1.Space ([]:Str)) then (dZ N v14 x1.Space) else some false).bind fun v15=>bif ((yR .neq x1.Space ([]:Str))&&(!v15)) then (some 6) else (bif ((ax .lss x1.Kind (-1))||(ax .gtr x1.Kind 5)) then (some 2) else (bif ((ax .neq x1.Kind (-1))&&(yR .eql x1.Space ([]:Str))) then (some 3) else ((bM (pY N x1 x2) N 0).bind fun Qj=>Sum.elim (fun l24=>some 0) (fun r25=>some r25) Qj)))) (fun r13=>some r13) Dp))
def lQ (N:Nat) (x0:Int) (c0:GWork) (c1:(List Str)):Option (Int) :=
  (idx c0.Items x0).bind fun v1=>(uX N c0 v1 c1).bind fun v2=>some v2
def nV (N:Nat) (v1:(List Str)) (s3:((List (qp Int))×Int)) (v4:bU) (s5:((List (qp Int))×Int)):Option (((List (qp Int))×Int) ⊕ (List (qp Int))) :=
  bif (ax .lss s5.2 (List.length v4.After:Int)) then ((idx v4.After s5.2).bind fun v6=>(idx s5.1 s3.2).bind fun v7=>(tkA s5.1 (Int.toNat s3.2)).bind fun v8=>(eG N v1 v6).bind fun v9=>(app v8 [v9]).bind fun v10=>(idx (List.set s5.1 (Int.toNat s3.2) qp.gone) s3.2).bind fun v11=>((List.set s5.1 (Int.toNat s3.2) qp.gone)[(Int.toNat s3.2)]?).bind fun v12=>some (.inl ((List.set (List.set s5.1 (Int.toNat s3.2) qp.gone) (Int.toNat s3.2) (qp.own v10)),(IntKind.i64.wrap (s5.2+1))))) else (some (.inr s5.1))
def nU (N:Nat) (x0:GWork) (v1:(List Str)) (s3:((List (qp Int))×Int)):Option (((List (qp Int))×Int) ⊕ (List (qp Int))) :=
  bif (ax .lss s3.2 (List.length x0.Items:Int)) then ((idx x0.Items s3.2).bind fun v4=>(bM (nV N v1 s3 v4) N (s3.1,0)).bind fun RV=>some (.inl (RV,(IntKind.i64.wrap (s3.2+1))))) else (some (.inr s3.1))
def ng (N:Nat) (x0:GWork):Option ((List (List Int))) :=
  (lH N x0).bind fun v1=>(mk (qp.own ([]:(List Int))) (List.length v1:Int) (List.length v1:Int)).bind fun v2=>(bM (nU N x0 v1) N (v2,0)).bind fun VI=>(allA VI).bind fun v20=>some v20
def iy (N:Nat) (x0:(List Int)) (x1:Int) (s1:Int):Option (Int ⊕ (Unit ⊕ Int)) :=
  bif (ax .lss s1 (List.length x0:Int)) then ((idx x0 s1).bind fun v2=>bif (ax .eql x1 v2) then (some (.inr (Sum.inr s1))) else (some (.inl (IntKind.i64.wrap (s1+1))))) else (some (.inr (Sum.inl ())))
def iU (N:Nat) (x0:(List Int)) (x1:Int):Option (Int) :=
  (bM (iy N x0 x1) N 0).bind fun o5=>Sum.elim (fun l7=>some (-1)) (fun r8=>some r8) o5
def dI (N:Nat) (x0:(List Int)) (x1:Int):Option (Bool) :=
  (iU N x0 x1).bind fun v1=>some (ax .geq v1 0)
def su (N:Nat) (g0:(List Int)) (x0:Int):Option Bool :=
  (dI N g0 x0).bind fun v2=>some (!v2)
def fO (N:Nat) (g0:(List Int)) (x0:(List Int)) (s1:Int):Option (Int ⊕ (Unit ⊕ Int)) :=
  bif (ax .lss s1 (List.length x0:Int)) then ((idx x0 s1).bind fun v2=>(su N g0 v2).bind fun v3=>bif v3 then (some (.inr (Sum.inr s1))) else (some (.inl (IntKind.i64.wrap (s1+1))))) else (some (.inr (Sum.inl ())))
def jW (N:Nat) (g0:(List Int)) (x0:(List Int)):Option Int :=
  (bM (fO N g0 x0) N 0).bind fun o6=>Sum.elim (fun l8=>some (-1)) (fun r9=>some r9) o6
def iM (N:Nat) (g0:(List Int)) (x0:(List Int)):Option Bool :=
  (jW N g0 x0).bind fun v1=>some (ax .geq v1 0)
def uy (N:Nat) (g0:(List Int)) (x0:(List Int)):Option Bool :=
  (iM N g0 x0).bind fun v1=>some (!v1)
def iO (N:Nat) (g0:(List Int)) (x0:(List (List Int))) (s1:Int):Option (Int ⊕ (Unit ⊕ Int)) :=
  bif (ax .lss s1 (List.length x0:Int)) then ((idx x0 s1).bind fun v2=>(uy N g0 v2).bind fun v3=>bif v3 then (some (.inr (Sum.inr s1))) else (some (.inl (IntKind.i64.wrap (s1+1))))) else (some (.inr (Sum.inl ())))
def gJ (N:Nat) (g0:(List Int)) (x0:(List (List Int))):Option Int :=
  (bM (iO N g0 x0) N 0).bind fun o6=>Sum.elim (fun l8=>some (-1)) (fun r9=>some r9) o6
def wC (N:Nat) (g0:(List Int)) (x0:Int):Option Bool :=
  (dI N g0 x0).bind fun v2=>some (!v2)
def lq (N:Nat) (g0:(List Int)) (x0:(List Int)) (s1:Int):Option (Int ⊕ (Unit ⊕ Int)) :=
  bif (ax .lss s1 (List.length x0:Int)) then ((idx x0 s1).bind fun v2=>(wC N g0 v2).bind fun v3=>bif v3 then (some (.inr (Sum.inr s1))) else (some (.inl (IntKind.i64.wrap (s1+1))))) else (some (.inr (Sum.inl ())))
def mO (N:Nat) (g0:(List Int)) (x0:(List Int)):Option Int :=
  (bM (lq N g0 x0) N 0).bind fun o6=>Sum.elim (fun l8=>some (-1)) (fun r9=>some r9) o6
def lu (N:Nat) (g0:(List Int)) (x0:(List Int)):Option Bool :=
  (mO N g0 x0).bind fun v1=>some (ax .geq v1 0)
def xE (N:Nat) (g0:(List Int)) (x0:(List Int)):Option Bool :=
  (lu N g0 x0).bind fun v1=>some (!v1)
def lm (N:Nat) (g0:(List Int)) (x0:(List (List Int))) (s1:Int):Option (Int ⊕ (Unit ⊕ Int)) :=
  bif (ax .lss s1 (List.length x0:Int)) then ((idx x0 s1).bind fun v2=>(xE N g0 v2).bind fun v3=>bif v3 then (some (.inr (Sum.inr s1))) else (some (.inl (IntKind.i64.wrap (s1+1))))) else (some (.inr (Sum.inl ())))
def jT (N:Nat) (g0:(List Int)) (x0:(List (List Int))):Option Int :=
  (bM (lm N g0 x0) N 0).bind fun o6=>Sum.elim (fun l8=>some (-1)) (fun r9=>some r9) o6
def jU (N:Nat) (v1:(List (List Int))) (s3:(List Int)) (s6:Int):Option (Int ⊕ Int) :=
  (bif (ax .geq s6 0) then (dI N s3 s6) else some false).bind fun v8=>bif ((ax .geq s6 0)&&v8) then ((WV v1 (IntKind.i64.wrap (s6+1)) (List.length v1:Int)).bind fun v9=>(jT N s3 v9).bind fun v10=>bif (ax .lss v10 0) then (some (.inl (-1))) else (some (.inl (IntKind.i64.wrap (s6+(IntKind.i64.wrap (1+v10))))))) else (some (.inr s6))
def jv (N:Nat) (v1:(List (List Int))) (s3:(List Int)):Option ((List Int) ⊕ ((List Int) ⊕ (List Int))) :=
  bif (ax .lss (List.length s3:Int) (List.length v1:Int)) then ((gJ N s3 v1).bind fun v5=>(bM (jU N v1 s3) N v5).bind fun F7=>bif (ax .lss F7 0) then (some (.inr (Sum.inr s3))) else ((app s3 [F7]).bind fun v17=>some (.inl v17))) else (some (.inr (Sum.inl s3)))
def qB (N:Nat) (x0:GWork):Option ((List Int)) :=
  (ng N x0).bind fun v1=>(bM (jv N v1) N ([]:(List Int))).bind fun o21=>Sum.elim (fun l23=>some l23) (fun r24=>some r24) o21
def nO (N:Nat) (x0:GWork):Option (Int) :=
  (jw N x0).bind fun v1=>(rU N v1 6 (fun y0=>lM N y0 x0)).bind fun v2=>bif (ax .neq v2 0) then (some v2) else ((mM N x0).bind fun v3=>(rU N v3 12 (fun y0=>lN N y0 x0 v3)).bind fun v4=>bif (ax .neq v4 0) then (some v4) else ((uf N x0).bind fun v5=>bif (ax .neq v5 0) then (some v5) else ((lH N x0).bind fun v6=>(rU N v6 40 (fun y0=>lQ N y0 x0 v6)).bind fun v7=>bif (ax .neq v7 0) then (some v7) else ((fQ N x0.FN 1000000000).bind fun v8=>(bif (!(!v8)) then (fQ N x0.Late 1000000000) else some false).bind fun v9=>(bif (!((!v8)||(!v9))) then (fQ N x0.Due 400) else some false).bind fun v10=>(bif (!(((!v8)||(!v9))||(!v10))) then (fQ N x0.Last 400) else some false).bind fun v11=>bif ((((!v8)||(!v9))||(!v10))||(!v11)) then (some 2) else ((qB N x0).bind fun v12=>bif (ax .lss (List.length v12:Int) (List.length x0.Items:Int)) then (some 22) else (some 0))))))
def oz (N:Nat) (x0:GWork) (x1:(List GSlot)) (v2:(List Str)) (s4:((List ah)×Int)):Option (((List ah)×Int) ⊕ ((List ah) ⊕ ((List ah)×Int))) :=
  bif (ax .lss s4.2 (List.length x1:Int)) then ((idx x1 s4.2).bind fun v5=>(eG N v2 v5.Item).bind fun v6=>bif (ax .lss v6 0) then (some (.inr (Sum.inr ([],6)))) else ((idx s4.1 v6).bind fun v7=>bif v7.on then (some (.inr (Sum.inr ([],5)))) else ((bif (!(ax .lss v5.Mode 0)) then (idx x0.Items v6) else some (⟨[],[],[],[],0,false,[]⟩:bU)).bind fun v8=>(bif (!((ax .lss v5.Mode 0)||(ax .geq v5.Mode (List.length v8.Modes:Int)))) then (fQ N v5.Day 400) else some false).bind fun v9=>bif (((ax .lss v5.Mode 0)||(ax .geq v5.Mode (List.length v8.Modes:Int)))||(!v9)) then (some (.inr (Sum.inr ([],2)))) else ((idx s4.1 v6).bind fun v10=>some (.inl ((List.set s4.1 (Int.toNat v6) (⟨v5.Mode,v5.Day,true⟩:ah)),(IntKind.i64.wrap (s4.2+1)))))))) else (some (.inr (Sum.inl s4.1)))
def iW (N:Nat) (x0:GWork) (x1:(List GSlot)):Option ((List ah)×Int) :=
  (nO N x0).bind fun v1=>bif (ax .neq v1 0) then (some ([],v1)) else (bif (ax .neq (List.length x1:Int) (List.length x0.Items:Int)) then (some ([],11)) else ((lH N x0).bind fun v2=>(mk (⟨0,0,false⟩:ah) (List.length v2:Int) (List.length v2:Int)).bind fun v3=>(bM (oz N x0 x1 v2) N (v3,0)).bind fun WO=>Sum.elim (fun l17=>some (l17,0)) (fun r18=>some (r18.1,r18.2)) WO))
def rG (N:Nat):Option ((List dN)) :=
  some [(⟨(some 110)⟩:dN),(⟨(some 111)⟩:dN),(⟨(some 112)⟩:dN),(⟨(some 113)⟩:dN),(⟨(some 114)⟩:dN)]
def dV (N:Nat) (x0:ah) (x1:bU):Option (Int) :=
  (idx x1.Modes x0.mode).bind fun v1=>some (IntKind.i64.wrap (x0.day+v1.iH))
def mJ (N:Nat) (x0:GWork) (x1:(List ah)) (s2:((List cu)×Int)) (v3:(List Int)) (s4:((List cu)×Int)):Option (((List cu)×Int) ⊕ (List cu)) :=
  bif (ax .lss s4.2 (List.length v3:Int)) then ((idx v3 s4.2).bind fun v5=>(idx x1 v5).bind fun v6=>(idx x0.Items v5).bind fun v7=>(dV N v6 v7).bind fun v8=>(idx x1 s2.2).bind fun v9=>bif (ax .gtr v8 v9.day) then ((idx x0.Items v5).bind fun v10=>(idx x0.Items s2.2).bind fun v11=>(app s4.1 [(⟨v10.Name,v11.Name,10⟩:cu)]).bind fun v12=>some (.inl (v12,(IntKind.i64.wrap (s4.2+1))))) else (some (.inl (s4.1,(IntKind.i64.wrap (s4.2+1)))))) else (some (.inr s4.1))
def mG (N:Nat) (x0:GWork) (x1:(List ah)) (v1:(List (List Int))) (s2:((List cu)×Int)):Option (((List cu)×Int) ⊕ (List cu)) :=
  bif (ax .lss s2.2 (List.length v1:Int)) then ((idx v1 s2.2).bind fun v3=>(bM (mJ N x0 x1 s2 v3) N (s2.1,0)).bind fun WO=>some (.inl (WO,(IntKind.i64.wrap (s2.2+1))))) else (some (.inr s2.1))
def nP (N:Nat) (x0:GWork) (x1:(List ah)):Option (List cu) :=
  (ng N x0).bind fun v1=>(bM (mG N x0 x1 v1) N ([],0)).bind fun NF=>some NF
def qH (N:Nat) (v2:ah) (v3:bU) (s4:((List (Int×Int))×Int)):Option (((List (Int×Int))×Int) ⊕ (List (Int×Int))) :=
  (dV N v2 v3).bind fun v5=>bif (ax .lss s4.2 v5) then ((idx v3.Modes v2.mode).bind fun v6=>some (.inl ((xB s4.1 s4.2 (IntKind.i64.wrap ((uG 0 s4.1 s4.2)+v6.gB))),(IntKind.i64.wrap (s4.2+1))))) else (some (.inr s4.1))
def nR (N:Nat) (x0:GWork) (x1:(List ah)) (x2:Str) (s1:((List (Int×Int))×Int)):Option (((List (Int×Int))×Int) ⊕ (List (Int×Int))) :=
  bif (ax .lss s1.2 (List.length x1:Int)) then ((idx x1 s1.2).bind fun v2=>(idx x0.Items s1.2).bind fun v3=>bif ((!v2.on)||(yR .neq v3.iq x2)) then (some (.inl (s1.1,(IntKind.i64.wrap (s1.2+1))))) else ((bM (qH N v2 v3) N (s1.1,v2.day)).bind fun o8=>some (.inl (o8,(IntKind.i64.wrap (s1.2+1)))))) else (some (.inr s1.1))
def sZ (N:Nat) (x0:GWork) (x1:(List ah)) (x2:Str):Option ((List (Int×Int))) :=
  (bM (nR N x0 x1 x2) N (([]:(List (Int×Int))),0)).bind fun F7=>some F7
def jY (N:Nat) (s6:Int) (p7:(Int×Int)):Option Int :=
  some (max s6 p7.2)
def iG (N:Nat) (x0:GWork) (x1:(List ah)) (s1:((List cu)×Int)):Option (((List cu)×Int) ⊕ (List cu)) :=
  bif (ax .lss s1.2 (List.length x0.aY:Int)) then ((idx x0.aY s1.2).bind fun v2=>(sZ N x0 x1 v2.Name).bind fun v3=>MR v3 fun q8p=>(MQ (jY N) q8p 0).bind fun s6=>bif (ax .gtr s6 v2.gB) then ((app s1.1 [(⟨v2.Name,[],23⟩:cu)]).bind fun v9=>some (.inl (v9,(IntKind.i64.wrap (s1.2+1))))) else (some (.inl (s1.1,(IntKind.i64.wrap (s1.2+1)))))) else (some (.inr s1.1))
def kG (N:Nat) (x0:GWork) (x1:(List ah)):Option (List cu) :=
  (bM (iG N x0 x1) N ([],0)).bind fun o12=>some o12
def xM (N:Nat) (x0:GWork) (x1:(List ah)) (x2:Int) (x3:Int):Option (Bool) :=
  (idx x1 x2).bind fun v1=>(bif v1.on then (idx x1 x3) else some (⟨0,0,false⟩:ah)).bind fun v2=>(bif (v1.on&&v2.on) then (idx x1 x2) else some (⟨0,0,false⟩:ah)).bind fun v3=>(bif (v1.on&&v2.on) then (idx x1 x3) else some (⟨0,0,false⟩:ah)).bind fun v4=>(bif (v1.on&&v2.on) then (idx x0.Items x3) else some (⟨[],[],[],[],0,false,[]⟩:bU)).bind fun v5=>(bif (v1.on&&v2.on) then (dV N v4 v5) else some 0).bind fun v6=>(bif ((v1.on&&v2.on)&&(ax .lss v3.day v6)) then (idx x1 x3) else some (⟨0,0,false⟩:ah)).bind fun v7=>(bif ((v1.on&&v2.on)&&(ax .lss v3.day v6)) then (idx x1 x2) else some (⟨0,0,false⟩:ah)).bind fun v8=>(bif ((v1.on&&v2.on)&&(ax .lss v3.day v6)) then (idx x0.Items x2) else some (⟨[],[],[],[],0,false,[]⟩:bU)).bind fun v9=>(bif ((v1.on&&v2.on)&&(ax .lss v3.day v6)) then (dV N v8 v9) else some 0).bind fun v10=>some (((v1.on&&v2.on)&&(ax .lss v3.day v6))&&(ax .lss v7.day v10))
def qC (N:Nat) (x0:GWork) (x1:Str) (x2:Str) (s1:Int):Option (Int ⊕ (Unit ⊕ Int)) :=
  bif (ax .lss s1 (List.length x0.dh:Int)) then ((idx x0.dh s1).bind fun v2=>(bif (yR .eql v2.Name x1) then (dZ N v2.Next x2) else some false).bind fun v3=>(bif ((!((yR .eql v2.Name x1)&&v3))&&(yR .eql v2.Name x2)) then (dZ N v2.Next x1) else some false).bind fun v4=>bif (((yR .eql v2.Name x1)&&v3)||((yR .eql v2.Name x2)&&v4)) then (some (.inr (Sum.inr 1))) else (some (.inl (IntKind.i64.wrap (s1+1))))) else (some (.inr (Sum.inl ())))
def xN (N:Nat) (x0:GWork) (x1:Str) (x2:Str):Option (Int) :=
  bif (yR .eql x1 x2) then (some 0) else ((bM (qC N x0 x1 x2) N 0).bind fun o7=>Sum.elim (fun l9=>some 2) (fun r10=>some r10) o7)
def pR (N:Nat) (x0:dL) (c0:bU) (c1:bU) (c2:GWork):Option (Bool) :=
  (bif (((ax .eql x0.A c0.Kind)&&(ax .eql x0.B c1.Kind))||((ax .eql x0.A c1.Kind)&&(ax .eql x0.B c0.Kind))) then (xN N c2 c0.Space c1.Space) else some 0).bind fun v1=>some ((((ax .eql x0.A c0.Kind)&&(ax .eql x0.B c1.Kind))||((ax .eql x0.A c1.Kind)&&(ax .eql x0.B c0.Kind)))&&(ax .leq v1 x0.Reach))
def fZ (N:Nat) (x0:(List dL)) (x1:(dL→Option Bool)) (s1:Int):Option (Int ⊕ (Unit ⊕ Int)) :=
  bif (ax .lss s1 (List.length x0:Int)) then ((idx x0 s1).bind fun v2=>(x1 v2).bind fun v3=>bif v3 then (some (.inr (Sum.inr s1))) else (some (.inl (IntKind.i64.wrap (s1+1))))) else (some (.inr (Sum.inl ())))
def gV (N:Nat) (x0:(List dL)) (x1:(dL→Option Bool)):Option (Int) :=
  (bM (fZ N x0 x1) N 0).bind fun o6=>Sum.elim (fun l8=>some (-1)) (fun r9=>some r9) o6
def gm (N:Nat) (x0:(List dL)) (x1:(dL→Option Bool)):Option (Bool) :=
  (gV N x0 x1).bind fun v1=>some (ax .geq v1 0)
def tZ (N:Nat) (x0:GWork) (x1:bU) (x2:bU):Option (Bool) :=
  bif (((yR .eql x1.Name x2.Name)||(ax .lss x1.Kind 0))||(ax .lss x2.Kind 0)) then (some false) else ((gm N x0.bD (fun y0=>pR N y0 x1 x2 x0)).bind fun v1=>some v1)
def uH (N:Nat) (x0:GWork) (x1:Int) (x2:Int):Option (Bool) :=
  (idx x0.Items x1).bind fun v1=>(idx x0.Items x2).bind fun v2=>(bif (!(v1.BH&&v2.BH)) then (tZ N x0 v1 v2) else some false).bind fun v3=>some ((v1.BH&&v2.BH)||v3)
def mr (N:Nat) (x0:GWork) (x1:(List ah)) (s1:((List cu)×Int)) (s2:((List cu)×Int)):Option (((List cu)×Int) ⊕ (List cu)) :=
  bif (ax .lss s2.2 (List.length x1:Int)) then ((xM N x0 x1 s1.2 s2.2).bind fun v3=>(bif v3 then (uH N x0 s1.2 s2.2) else some false).bind fun v4=>bif (v3&&v4) then ((idx x0.Items s1.2).bind fun v5=>(idx x0.Items s2.2).bind fun v6=>(app s2.1 [(⟨v5.Name,v6.Name,17⟩:cu)]).bind fun v7=>some (.inl (v7,(IntKind.i64.wrap (s2.2+1))))) else (some (.inl (s2.1,(IntKind.i64.wrap (s2.2+1)))))) else (some (.inr s2.1))
def kM (N:Nat) (x0:GWork) (x1:(List ah)) (s1:((List cu)×Int)):Option (((List cu)×Int) ⊕ (List cu)) :=
  bif (ax .lss s1.2 (List.length x1:Int)) then ((bM (mr N x0 x1 s1) N (s1.1,(IntKind.i64.wrap (s1.2+1)))).bind fun Dp=>some (.inl (Dp,(IntKind.i64.wrap (s1.2+1))))) else (some (.inr s1.1))
def kT (N:Nat) (x0:GWork) (x1:(List ah)):Option (List cu) :=
  (bM (kM N x0 x1) N ([],0)).bind fun RV=>some RV
def nS (N:Nat) (x0:jH) (c0:ah) (c1:bU):Option (Bool) :=
  (bif (ax .lss c0.day x0.To) then (dV N c0 c1) else some 0).bind fun v1=>some ((ax .lss c0.day x0.To)&&(ax .lss x0.From v1))
def fM (N:Nat) (x0:(List jH)) (x1:(jH→Option Bool)) (s1:Int):Option (Int ⊕ (Unit ⊕ Int)) :=
  bif (ax .lss s1 (List.length x0:Int)) then ((idx x0 s1).bind fun v2=>(x1 v2).bind fun v3=>bif v3 then (some (.inr (Sum.inr s1))) else (some (.inl (IntKind.i64.wrap (s1+1))))) else (some (.inr (Sum.inl ())))
def jV (N:Nat) (x0:(List jH)) (x1:(jH→Option Bool)):Option (Int) :=
  (bM (fM N x0 x1) N 0).bind fun o6=>Sum.elim (fun l8=>some (-1)) (fun r9=>some r9) o6
def iL (N:Nat) (x0:(List jH)) (x1:(jH→Option Bool)):Option (Bool) :=
  (jV N x0 x1).bind fun v1=>some (ax .geq v1 0)
def qE (N:Nat) (x0:GWork) (x1:bU) (x2:ah):Option (Bool) :=
  (bif x1.BH then (iL N x0.dm (fun y0=>nS N y0 x2 x1)) else some false).bind fun v1=>some (x1.BH&&v1)
def lT (N:Nat) (x0:GWork) (x1:(List ah)) (s1:((List cu)×Int)):Option (((List cu)×Int) ⊕ (List cu)) :=
  bif (ax .lss s1.2 (List.length x1:Int)) then ((idx x1 s1.2).bind fun v2=>(idx x0.Items s1.2).bind fun v3=>(qE N x0 v3 v2).bind fun v4=>bif v4 then ((idx x0.Items s1.2).bind fun v5=>(app s1.1 [(⟨v5.Name,[],18⟩:cu)]).bind fun v6=>some (.inl (v6,(IntKind.i64.wrap (s1.2+1))))) else (some (.inl (s1.1,(IntKind.i64.wrap (s1.2+1)))))) else (some (.inr s1.1))
def mD (N:Nat) (x0:GWork) (x1:(List ah)):Option (List cu) :=
  (bM (lT N x0 x1) N ([],0)).bind fun o9=>some o9
def nT (N:Nat) (x0:GWork) (x1:(List ah)) (s1:((List cu)×Int)):Option (((List cu)×Int) ⊕ (List cu)) :=
  bif (ax .lss s1.2 (List.length x1:Int)) then ((idx x1 s1.2).bind fun v2=>(idx x0.Items s1.2).bind fun v3=>(dV N v2 v3).bind fun v4=>bif (ax .gtr v4 x0.Last) then ((idx x0.Items s1.2).bind fun v5=>(app s1.1 [(⟨v5.Name,[],16⟩:cu)]).bind fun v6=>some (.inl (v6,(IntKind.i64.wrap (s1.2+1))))) else (some (.inl (s1.1,(IntKind.i64.wrap (s1.2+1)))))) else (some (.inr s1.1))
def pI (N:Nat) (x0:GWork) (x1:(List ah)):Option (List cu) :=
  (bM (nT N x0 x1) N ([],0)).bind fun o9=>some o9
def oC (N:Nat) (n:(Option Nat)) (x0:GWork) (x1:(List ah)):Option (List cu) :=
  bif decide (n=some 110) then ((nP N x0 x1).bind fun y=>some y) else (bif decide (n=some 111) then ((kG N x0 x1).bind fun y=>some y) else (bif decide (n=some 112) then ((kT N x0 x1).bind fun y=>some y) else (bif decide (n=some 113) then ((mD N x0 x1).bind fun y=>some y) else (bif decide (n=some 114) then ((pI N x0 x1).bind fun y=>some y) else (none)))))
def jI (N:Nat) (x0:GWork) (v1:((List ah)×Int)) (v2:(List dN)) (s3:((List cu)×Int)):Option (((List cu)×Int) ⊕ (List cu)) :=
  bif (ax .lss s3.2 (List.length v2:Int)) then ((idx v2 s3.2).bind fun v4=>(oC N v4.find x0 v1.1).bind fun v5=>(app s3.1 v5).bind fun v6=>some (.inl (v6,(IntKind.i64.wrap (s3.2+1))))) else (some (.inr s3.1))
def qV (N:Nat) (x0:GWork) (x1:(List GSlot)):Option ((List cu)×Int) :=
  (iW N x0 x1).bind fun v1=>bif (ax .neq v1.2 0) then (some ([],v1.2)) else ((rG N).bind fun v2=>(bM (jI N x0 v1 v2) N ([],0)).bind fun o8=>some (o8,0))
def nY (N:Nat) (x0:GWork) (x1:(List GSlot)):Option ((List ah)×Int) :=
  (qV N x0 x1).bind fun v1=>bif (ax .neq v1.2 0) then (some ([],v1.2)) else (bif (ax .gtr (List.length v1.1:Int) 0) then ((idx v1.1 0).bind fun v2=>some ([],v2.Reason)) else ((iW N x0 x1).bind fun v3=>some (v3.1,v3.2)))
def jJ (N:Nat) (x0:GWork) (x1:(List ah)) (s1:(Int×Int)):Option ((Int×Int) ⊕ Int) :=
  bif (ax .lss s1.2 (List.length x1:Int)) then ((idx x1 s1.2).bind fun v2=>bif v2.on then ((idx x0.Items s1.2).bind fun v3=>(dV N v2 v3).bind fun v4=>some (.inl ((max s1.1 v4),(IntKind.i64.wrap (s1.2+1))))) else (some (.inl (s1.1,(IntKind.i64.wrap (s1.2+1)))))) else (some (.inr s1.1))
def jZ (N:Nat) (x0:GWork) (x1:(List ah)):Option (Int) :=
  (bM (jJ N x0 x1) N (0,0)).bind fun o7=>some o7
def kU (N:Nat) (x0:GWork) (x1:(List GSlot)):Option (Int×Int) :=
  (nY N x0 x1).bind fun v1=>bif (ax .neq v1.2 0) then (some (0,v1.2)) else ((jZ N x0 v1.1).bind fun v2=>some (v2,0))
def wu (N:Nat):Option (Bool) :=
  (kU N (⟨[(⟨([97]:Str),([119]:Str),[(⟨3,1⟩:kJ)],[],(-1),false,[]⟩:bU)],[(⟨([119]:Str),1,0⟩:iD)],[],[],[],0,0,0,5⟩:GWork) [(⟨([97]:Str),0,1⟩:GSlot)]).bind fun v1=>some ((ax .eql v1.2 0)&&(ax .eql v1.1 4))
def rQ (N:Nat) (x0:GWork):Option (Int) :=
  (nO N x0).bind fun v1=>bif (ax .neq v1 0) then (some v1) else (bif ((ax .gtr (List.length x0.Items:Int) 8)||(ax .gtr x0.Last 60)) then (some 8) else (some 0))
def mg (N:Nat) (x0:GWork) (s8:(Int×aB)) (s9:((List Bool)×Int)):Option (((List Bool)×Int) ⊕ (List Bool)) :=
  bif (ax .lss s9.2 (List.length x0.Items:Int)) then ((bif (ax .neq s8.1 s9.2) then (uH N x0 s8.1 s9.2) else some false).bind fun v10=>(app s9.1 [((ax .neq s8.1 s9.2)&&v10)]).bind fun v11=>some (.inl (v11,(IntKind.i64.wrap (s9.2+1))))) else (some (.inr s9.1))
def kL (N:Nat) (x0:GWork) (s8:(Int×aB)):Option ((Int×aB) ⊕ aB) :=
  bif (ax .lss s8.1 (List.length x0.Items:Int)) then ((bM (mg N x0 s8) N ([],0)).bind fun F7=>(app s8.2.apart [F7]).bind fun v15=>some (.inl ((IntKind.i64.wrap (s8.1+1)),({ s8.2 with apart:=v15 }:aB)))) else (some (.inr s8.2))
def iK (N:Nat) (x0:GWork):Option ((Option (aB×(List Int)×(List ah)))×Unit) :=
  (ng N x0).bind fun v1=>(mk 0 (List.length x0.Items:Int) (List.length x0.Items:Int)).bind fun v2=>(mk (⟨0,0,false⟩:ah) (List.length x0.Items:Int) (List.length x0.Items:Int)).bind fun v3=>(bM (kL N x0) N (0,(⟨x0,v1,[]⟩:aB))).bind fun VI=>some ((some (VI,v2,v3)),())
def sO (N:Nat) (x0:ah) (x1:bU) (x2:Int):Option (Int) :=
  (bif (!((!x0.on)||(ax .lss x2 x0.day))) then (dV N x0 x1) else some 0).bind fun v1=>bif (((!x0.on)||(ax .lss x2 x0.day))||(ax .geq x2 v1)) then (some 0) else ((idx x1.Modes x0.mode).bind fun v2=>some v2.gB)
def jy (N:Nat) (g0:aB) (nH:(List ah)) (x1:Int) (v1:bU) (s5:Int) (s8:(Int×Int)):Option ((Int×Int) ⊕ Int) :=
  bif (ax .lss s8.2 (List.length nH:Int)) then ((idx nH s8.2).bind fun v9=>(bif (ax .neq s8.2 x1) then (idx g0.w.Items s8.2) else some (⟨[],[],[],[],0,false,[]⟩:bU)).bind fun v10=>bif ((ax .neq s8.2 x1)&&(yR .eql v10.iq v1.iq)) then ((idx g0.w.Items s8.2).bind fun v11=>(sO N v9 v11 s5).bind fun v12=>some (.inl ((IntKind.i64.wrap (s8.1+v12)),(IntKind.i64.wrap (s8.2+1))))) else (some (.inl (s8.1,(IntKind.i64.wrap (s8.2+1)))))) else (some (.inr s8.1))
def kD (N:Nat) (g0:aB) (nH:(List ah)) (x1:Int) (x2:ah) (v1:bU) (v4:iD) (s5:Int):Option (Int ⊕ (Unit ⊕ Bool)) :=
  (dV N x2 v1).bind fun v6=>bif (ax .lss s5 v6) then ((idx v1.Modes x2.mode).bind fun v7=>(bM (jy N g0 nH x1 v1 s5) N (v7.gB,0)).bind fun WO=>bif (ax .gtr WO v4.gB) then (some (.inr (Sum.inr false))) else (some (.inl (IntKind.i64.wrap (s5+1))))) else (some (.inr (Sum.inl ())))
def oU (N:Nat) (g0:aB) (oZ:(List Int)) (nH:(List ah)) (x1:Int) (x2:ah):Option Bool :=
  (idx g0.w.Items x1).bind fun v1=>(jw N g0.w).bind fun v2=>(eG N v2 v1.iq).bind fun v3=>(idx g0.w.aY v3).bind fun v4=>(bM (kD N g0 nH x1 x2 v1 v4) N x2.day).bind fun SX=>Sum.elim (fun l22=>some true) (fun r23=>some r23) SX
def kY (N:Nat) (g0:aB) (nH:(List ah)) (x1:Int) (x2:ah) (v1:bU) (s5:Int):Option (Int ⊕ (Unit ⊕ Bool)) :=
  bif (ax .lss s5 (List.length nH:Int)) then ((idx nH s5).bind fun v6=>bif ((!v6.on)||(ax .eql s5 x1)) then (some (.inl (IntKind.i64.wrap (s5+1)))) else ((idx g0.w.Items s5).bind fun v7=>(idx g0.prior x1).bind fun v8=>(dI N v8 s5).bind fun v9=>(bif v9 then (dV N v6 v7) else some 0).bind fun v10=>(bif (!(v9&&(ax .gtr v10 x2.day))) then (idx g0.prior s5) else some []).bind fun v11=>(bif (!(v9&&(ax .gtr v10 x2.day))) then (dI N v11 x1) else some false).bind fun v12=>(bif ((!(v9&&(ax .gtr v10 x2.day)))&&v12) then (dV N x2 v1) else some 0).bind fun v13=>bif ((v9&&(ax .gtr v10 x2.day))||(v12&&(ax .gtr v13 v6.day))) then (some (.inr (Sum.inr false))) else ((idx g0.apart x1).bind fun v14=>(idx v14 s5).bind fun v15=>(bif v15 then (dV N v6 v7) else some 0).bind fun v16=>(bif (v15&&(ax .lss x2.day v16)) then (dV N x2 v1) else some 0).bind fun v17=>bif ((v15&&(ax .lss x2.day v16))&&(ax .lss v6.day v17)) then (some (.inr (Sum.inr false))) else (some (.inl (IntKind.i64.wrap (s5+1))))))) else (some (.inr (Sum.inl ())))
def jr (N:Nat) (g0:aB) (oZ:(List Int)) (nH:(List ah)) (x1:Int) (x2:ah):Option Bool :=
  (idx g0.w.Items x1).bind fun v1=>(idx oZ x1).bind fun v2=>(bif (!(ax .lss x2.day v2)) then (dV N x2 v1) else some 0).bind fun v3=>(bif (!((ax .lss x2.day v2)||(ax .gtr v3 g0.w.Last))) then (qE N g0.w v1 x2) else some false).bind fun v4=>bif (((ax .lss x2.day v2)||(ax .gtr v3 g0.w.Last))||v4) then (some false) else ((bM (kY N g0 nH x1 x2 v1) N 0).bind fun Qj=>Sum.elim (fun l24=>(oU N g0 oZ nH x1 x2).bind fun v26=>some v26) (fun r25=>some r25) Qj)
def xK (N:Nat) (x0:GWork) (x1:Int):Option (Int) :=
  some (IntKind.i64.wrap ((IntKind.i64.wrap (x0.FN * x1))+(IntKind.i64.wrap (x0.Late * (max 0 (IntKind.i64.wrap (x1 - x0.Due)))))))
def uF (N:Nat) (x0:GWork) (x1:Int) (x2:Int):Option (Int) :=
  (idx x0.Items x1).bind fun v1=>(jw N x0).bind fun v2=>(eG N v2 v1.iq).bind fun v3=>(idx x0.aY v3).bind fun v4=>(idx v1.Modes x2).bind fun v5=>(idx v1.Modes x2).bind fun v6=>some (IntKind.i64.wrap ((IntKind.i64.wrap (v5.iH * v6.gB)) * v4.Ih))
def lK (N:Nat) (x0:GWork) (x1:(List ah)) (s3:(Int×Int)):Option ((Int×Int) ⊕ Int) :=
  bif (ax .lss s3.2 (List.length x1:Int)) then ((idx x1 s3.2).bind fun v4=>bif v4.on then ((uF N x0 s3.2 v4.mode).bind fun v5=>some (.inl ((IntKind.i64.wrap (s3.1+v5)),(IntKind.i64.wrap (s3.2+1))))) else (some (.inl (s3.1,(IntKind.i64.wrap (s3.2+1)))))) else (some (.inr s3.1))
def rf (N:Nat) (x0:GWork) (x1:(List ah)):Option (Int) :=
  (jZ N x0 x1).bind fun v1=>(xK N x0 v1).bind fun v2=>(bM (lK N x0 x1) N (v2,0)).bind fun o8=>some o8
def vJ (N:Nat) (n:(Option Nat)) (x0:GWork) (x1:(List ah)):Option Int :=
  bif decide (n=some 28) then ((jZ N x0 x1).bind fun y=>some y) else (bif decide (n=some 32) then ((rf N x0 x1).bind fun y=>some y) else (none))
def jA (N:Nat) (g0:ay) (kH:(List ah)) (s2:(Int×Int)):Option ((Int×Int) ⊕ Int) :=
  bif (ax .lss s2.2 (List.length kH:Int)) then ((idx kH s2.2).bind fun v3=>bif (!v3.on) then ((idx g0.rest s2.2).bind fun v4=>some (.inl ((IntKind.i64.wrap (s2.1+v4)),(IntKind.i64.wrap (s2.2+1))))) else (some (.inl (s2.1,(IntKind.i64.wrap (s2.2+1)))))) else (some (.inr s2.1))
def lI (N:Nat) (g0:ay) (oh:(List (Str×Bool))) (g1:aB) (lg:(List Int)) (kH:(List ah)):Option Int :=
  (vJ N g0.of g1.w kH).bind fun v1=>(bM (jA N g0 kH) N (v1,0)).bind fun o7=>some o7
def yD (N:Nat) (x0:Int):Option Str:=UO x0
def jP (N:Nat) (kH:(List ah)) (s1:(Str×Int)):Option ((Str×Int) ⊕ Str) :=
  bif (ax .lss s1.2 (List.length kH:Int)) then ((idx kH s1.2).bind fun v2=>bif v2.on then ((yD N v2.mode).bind fun v3=>(OT v3 ([58]:Str)).bind fun v4=>(yD N v2.day).bind fun v5=>(OT v4 v5).bind fun v6=>(OT s1.1 v6).bind fun v7=>(OT v7 ([32]:Str)).bind fun v8=>some (.inl (v8,(IntKind.i64.wrap (s1.2+1))))) else ((OT s1.1 ([32]:Str)).bind fun v9=>some (.inl (v9,(IntKind.i64.wrap (s1.2+1)))))) else (some (.inr s1.1))
def nC (N:Nat) (g0:ay) (oh:(List (Str×Bool))) (g1:aB) (lg:(List Int)) (kH:(List ah)):Option Str :=
  (bM (jP N kH) N (([]:Str),0)).bind fun o12=>some o12
def qO (N:Nat) (g0:ay) (oh:(List (Str×Bool))) (g1:aB) (lg:(List Int)) (kH:(List ah)) (x0:Int):Option Bool :=
  (idx kH x0).bind fun v1=>some (!v1.on)
def fA (N:Nat) (g0:ay) (oh:(List (Str×Bool))) (g1:aB) (lg:(List Int)) (kH:(List ah)) (x0:(List Int)) (s1:Int):Option (Int ⊕ (Unit ⊕ Int)) :=
  bif (ax .lss s1 (List.length x0:Int)) then ((idx x0 s1).bind fun v2=>(qO N g0 oh g1 lg kH v2).bind fun v3=>bif v3 then (some (.inr (Sum.inr s1))) else (some (.inl (IntKind.i64.wrap (s1+1))))) else (some (.inr (Sum.inl ())))
def jK (N:Nat) (g0:ay) (oh:(List (Str×Bool))) (g1:aB) (lg:(List Int)) (kH:(List ah)) (x0:(List Int)):Option Int :=
  (bM (fA N g0 oh g1 lg kH x0) N 0).bind fun o6=>Sum.elim (fun l8=>some (-1)) (fun r9=>some r9) o6
def gZ (N:Nat) (g0:ay) (oh:(List (Str×Bool))) (g1:aB) (lg:(List Int)) (kH:(List ah)) (x0:(List Int)):Option Bool :=
  (jK N g0 oh g1 lg kH x0).bind fun v1=>some (ax .geq v1 0)
def qg (N:Nat) (g0:ay) (oh:(List (Str×Bool))) (g1:aB) (lg:(List Int)) (kH:(List ah)) (x1:Int):Option Bool :=
  (idx kH x1).bind fun v1=>(bif (!v1.on) then (idx g1.prior x1) else some []).bind fun v2=>(bif (!v1.on) then (gZ N g0 oh g1 lg kH v2) else some false).bind fun v3=>some ((!v1.on)&&(!v3))
def jg (N:Nat) (g0:aB) (oZ:(List Int)) (nH:(List ah)) (x1:Int) (x2:Int) (s2:(ah×Int)):Option ((ah×Int) ⊕ (ah ⊕ (ah×Bool))) :=
  (idx g0.w.Items x1).bind fun v3=>(idx v3.Modes x2).bind fun v4=>bif (ax .leq (IntKind.i64.wrap (s2.2+v4.iH)) g0.w.Last) then ((jr N g0 oZ nH x1 (⟨x2,s2.2,true⟩:ah)).bind fun v5=>bif v5 then (some (.inr (Sum.inr ((⟨x2,s2.2,true⟩:ah),true)))) else (some (.inl (s2.1,(IntKind.i64.wrap (s2.2+1)))))) else (some (.inr (Sum.inl s2.1)))
def mY (N:Nat) (g0:aB) (oZ:(List Int)) (nH:(List ah)) (x1:Int) (x2:Int):Option (ah×Bool) :=
  (idx oZ x1).bind fun v1=>(bM (jg N g0 oZ nH x1 x2) N ((⟨0,0,false⟩:ah),v1)).bind fun o8=>Sum.elim (fun l10=>some ((⟨0,0,false⟩:ah),false)) (fun r11=>some (r11.1,r11.2)) o8
def gU (N:Nat) (rc:ay→(List (Str×Bool))→aB→(List Int)→(List ah)→Option (ay×(List (Str×Bool))×(List ah))) (g1:aB) (lg:(List Int)) (x1:Int) (v1:bU) (s2:(Int×ay×(List (Str×Bool))×(List ah))):Option ((Int×ay×(List (Str×Bool))×(List ah)) ⊕ (ay×(List (Str×Bool))×(List ah))) :=
  bif (ax .lss s2.1 (List.length v1.Modes:Int)) then ((mY N g1 lg s2.2.2.2 x1 s2.1).bind fun v3=>bif v3.2 then ((idx s2.2.2.2 x1).bind fun v4=>(rc s2.2.1 s2.2.2.1 g1 lg (List.set s2.2.2.2 (Int.toNat x1) v3.1)).bind fun v5=>(idx v5.2.2 x1).bind fun v6=>some (.inl ((IntKind.i64.wrap (s2.1+1)),v5.1,v5.2.1,(List.set v5.2.2 (Int.toNat x1) (⟨0,0,false⟩:ah))))) else (some (.inl ((IntKind.i64.wrap (s2.1+1)),s2.2.1,s2.2.2.1,s2.2.2.2)))) else (some (.inr (s2.2.1,s2.2.2.1,s2.2.2.2)))
def jq (N:Nat) (rc:ay→(List (Str×Bool))→aB→(List Int)→(List ah)→Option (ay×(List (Str×Bool))×(List ah))) (g0:ay) (oh:(List (Str×Bool))) (g1:aB) (lg:(List Int)) (kH:(List ah)) (x1:Int):Option (ay×(List (Str×Bool))×(List ah)) :=
  (idx g1.w.Items x1).bind fun v1=>(bM (gU N rc g1 lg x1 v1) N (0,g0,oh,kH)).bind fun o9=>some (o9.1,o9.2.1,o9.2.2)
def jh (N:Nat) (rc:ay→(List (Str×Bool))→aB→(List Int)→(List ah)→Option (ay×(List (Str×Bool))×(List ah))) (g1:aB) (lg:(List Int)) (kH:(List ah)) (s4:(Bool×Int×ay×(List (Str×Bool))×(List ah))):Option ((Bool×Int×ay×(List (Str×Bool))×(List ah)) ⊕ (Bool×ay×(List (Str×Bool))×(List ah))) :=
  bif (ax .lss s4.2.1 (List.length kH:Int)) then ((bif s4.1 then (idx s4.2.2.2.2 s4.2.1) else some (⟨0,0,false⟩:ah)).bind fun v5=>(qg N s4.2.2.1 s4.2.2.2.1 g1 lg s4.2.2.2.2 s4.2.1).bind fun v6=>bif v6 then ((jq N rc s4.2.2.1 s4.2.2.2.1 g1 lg s4.2.2.2.2 s4.2.1).bind fun v7=>some (.inl ((s4.1&&v5.on),(IntKind.i64.wrap (s4.2.1+1)),v7.1,v7.2.1,v7.2.2))) else (some (.inl ((s4.1&&v5.on),(IntKind.i64.wrap (s4.2.1+1)),s4.2.2.1,s4.2.2.2.1,s4.2.2.2.2)))) else (some (.inr (s4.1,s4.2.2.1,s4.2.2.2.1,s4.2.2.2.2)))
def lF (N:Nat) (rc:ay→(List (Str×Bool))→aB→(List Int)→(List ah)→Option (ay×(List (Str×Bool))×(List ah))) (g0:ay) (oh:(List (Str×Bool))) (g1:aB) (lg:(List Int)) (kH:(List ah)):Option (ay×(List (Str×Bool))×(List ah)) :=
  (lI N g0 oh g1 lg kH).bind fun v1=>(bif (!(ax .geq v1 g0.best)) then (nC N g0 oh g1 lg kH) else some []).bind fun v2=>bif ((ax .geq v1 g0.best)||(uG false oh v2)) then (some (g0,oh,kH)) else ((nC N g0 oh g1 lg kH).bind fun v3=>(bM (jh N rc g1 lg kH) N (true,0,g0,(xB oh v3 true),kH)).bind fun Dp=>bif Dp.1 then ((lI N Dp.2.1 Dp.2.2.1 g1 lg Dp.2.2.2).bind fun v12=>some (({ ({ Dp.2.1 with best:=v12 }:ay) with some:=true }:ay),Dp.2.2.1,Dp.2.2.2)) else (some (Dp.2.1,Dp.2.2.1,Dp.2.2.2)))
def iJ (N:Nat):ay→(List (Str×Bool))→aB→(List Int)→(List ah)→Option (ay×(List (Str×Bool))×(List ah)) :=
  match N with
  | 0=>fun _ _ _ _ _=>none
  | N+1=>fun g0 oh g1 lg kH=>lF N (iJ N) g0 oh g1 lg kH
def qo (N:Nat) (Ap:aB) (Aq:(List Int)) (zH:(List ah)) (s5:Int):Option (Int ⊕ (Unit ⊕ (Int×Bool))) :=
  bif (ax .lss s5 (List.length zH:Int)) then ((idx zH s5).bind fun v6=>(bif v6.on then (jr N Ap Aq zH s5 v6) else some false).bind fun v7=>bif (v6.on&&(!v7)) then (some (.inr (Sum.inr (0,false)))) else (some (.inl (IntKind.i64.wrap (s5+1))))) else (some (.inr (Sum.inl ())))
def iw (N:Nat) (Ap:aB) (Aq:(List Int)) (zH:(List ah)) (x1:(Option Nat)) (x2:(List Int)) (x3:Int):Option (Int×Bool) :=
  (bM (qo N Ap Aq zH) N 0).bind fun Dp=>Sum.elim (fun l12=>(iJ N (⟨x1,x2,x3,false⟩:ay) ([]:(List (Str×Bool))) Ap Aq zH).bind fun v16=>some (v16.1.best,v16.1.some)) (fun r13=>some (r13.1,r13.2)) Dp
def rX (N:Nat) (g0:aB) (oZ:(List Int)) (nH:(List ah)) (s1:Int):Option (Int ⊕ (Unit ⊕ (Int×Bool))) :=
  bif (ax .lss s1 (List.length nH:Int)) then ((idx nH s1).bind fun v2=>(bif v2.on then (jr N g0 oZ nH s1 v2) else some false).bind fun v3=>bif (v2.on&&(!v3)) then (some (.inr (Sum.inr (0,false)))) else (some (.inl (IntKind.i64.wrap (s1+1))))) else (some (.inr (Sum.inl ())))
def rF (N:Nat) (g0:aB) (oZ:(List Int)) (nH:(List ah)) (x1:(Option Nat)) (x2:(List Int)) (x3:Int):Option ((List ah)×Int×Bool) :=
  (bM (rX N g0 oZ nH) N 0).bind fun o6=>Sum.elim (fun l8=>(iJ N (⟨x1,x2,x3,false⟩:ay) ([]:(List (Str×Bool))) g0 oZ nH).bind fun v12=>some (v12.2.2,v12.1.best,v12.1.some)) (fun r9=>some (nH,r9.1,r9.2)) o6
def je (N:Nat) (g0:aB) (oZ:(List Int)) (x1:(Option Nat)) (x2:(List Int)) (x3:Int) (x4:Int) (s2:(ah×Int×(List ah))) (v3:kJ) (s5:(ah×Int×(List ah))):Option ((ah×Int×(List ah)) ⊕ ((ah×(List ah)) ⊕ (ah×(List ah)))) :=
  bif (ax .leq (IntKind.i64.wrap (s5.2.1+v3.iH)) g0.w.Last) then ((idx s5.2.2 x4).bind fun v6=>(rF N g0 oZ (List.set s5.2.2 (Int.toNat x4) (⟨s2.2.1,s5.2.1,true⟩:ah)) x1 x2 (IntKind.i64.wrap (x3+1))).bind fun v7=>bif v7.2.2 then ((idx v7.1 x4).bind fun v8=>some (.inr (Sum.inr (v8,v7.1)))) else (some (.inl (s5.1,(IntKind.i64.wrap (s5.2.1+1)),v7.1)))) else (some (.inr (Sum.inl (s5.1,s5.2.2))))
def kz (N:Nat) (g0:aB) (oZ:(List Int)) (x1:(Option Nat)) (x2:(List Int)) (x3:Int) (x4:Int) (v1:bU) (s2:(ah×Int×(List ah))):Option ((ah×Int×(List ah)) ⊕ ((ah×(List ah)) ⊕ (ah×(List ah)))) :=
  bif (ax .lss s2.2.1 (List.length v1.Modes:Int)) then ((idx v1.Modes s2.2.1).bind fun v3=>(idx oZ x4).bind fun v4=>(bM (je N g0 oZ x1 x2 x3 x4 s2 v3) N (s2.1,v4,s2.2.2)).bind fun NG=>Sum.elim (fun Zc=>some (.inl (Zc.1,(IntKind.i64.wrap (s2.2.1+1)),Zc.2))) (fun QG=>some (.inr (Sum.inr (QG.1,QG.2)))) NG) else (some (.inr (Sum.inl (s2.1,s2.2.2))))
def qN (N:Nat) (g0:aB) (oZ:(List Int)) (nH:(List ah)) (x1:(Option Nat)) (x2:(List Int)) (x3:Int) (x4:Int):Option ((List ah)×ah) :=
  (idx g0.w.Items x4).bind fun v1=>(bM (kz N g0 oZ x1 x2 x3 x4 v1) N ((⟨0,0,false⟩:ah),0,nH)).bind fun o17=>Sum.elim (fun l19=>some (l19.2,(⟨0,0,false⟩:ah))) (fun r20=>some (r20.2,r20.1)) o17
def kC (N:Nat) (Ap:aB) (Aq:(List Int)) (zH:(List ah)) (x1:(Option Nat)) (x2:(List Int)) (x3:Int) (s5:(Int×(List ah))):Option ((Int×(List ah)) ⊕ (List ah)) :=
  bif (ax .lss s5.1 (List.length zH:Int)) then ((idx s5.2 s5.1).bind fun v6=>bif (!v6.on) then ((qN N Ap Aq s5.2 x1 x2 x3 s5.1).bind fun v7=>(idx v7.1 s5.1).bind fun v8=>some (.inl ((IntKind.i64.wrap (s5.1+1)),(List.set v7.1 (Int.toNat s5.1) v7.2)))) else (some (.inl ((IntKind.i64.wrap (s5.1+1)),s5.2)))) else (some (.inr s5.2))
def iT (N:Nat) (Ap:aB) (Aq:(List Int)) (zH:(List ah)) (x1:(Option Nat)) (x2:(List Int)) (x3:Int):Option (List ah) :=
  (bM (kC N Ap Aq zH x1 x2 x3) N (0,zH)).bind fun NG=>some NG
def pG (N:Nat) (x0:GWork) (x1:(List ah)) (s1:((List GSlot)×Int)):Option (((List GSlot)×Int) ⊕ (List GSlot)) :=
  bif (ax .lss s1.2 (List.length x1:Int)) then ((idx x1 s1.2).bind fun v2=>(idx x0.Items s1.2).bind fun v3=>(app s1.1 [(⟨v3.Name,v2.mode,v2.day⟩:GSlot)]).bind fun v4=>some (.inl (v4,(IntKind.i64.wrap (s1.2+1))))) else (some (.inr s1.1))
def lX (N:Nat) (x0:GWork) (x1:(List ah)):Option ((List GSlot)) :=
  (bM (pG N x0 x1) N ([],0)).bind fun o6=>some o6
def qR (N:Nat) (x0:GWork):Option ((List GSlot)×Int) :=
  (rQ N x0).bind fun v1=>bif (ax .neq v1 0) then (some ([],v1)) else ((mk 0 (List.length x0.Items:Int) (List.length x0.Items:Int)).bind fun v2=>(iK N x0).bind fun v3=>AL v3 (fun v3e=>none) (fun KX v3e=>(iw N KX.1 KX.2.1 KX.2.2 (some 28) v2 1152921504606846976).bind fun v4=>bif (!v4.2) then (some ([],29)) else ((iK N x0).bind fun v5=>AL v5 (fun v5e=>none) (fun KY v5e=>(iT N KY.1 KY.2.1 KY.2.2 (some 28) v2 v4.1).bind fun v6=>(lX N x0 v6).bind fun v7=>some (v7,0)))))
def lZ (N:Nat) (x0:GWork) (s2:((List Int)×Int)) (v3:bU) (s5:((List Int)×Int)):Option (((List Int)×Int) ⊕ (List Int)) :=
  bif (ax .lss s5.2 (List.length v3.Modes:Int)) then ((idx s5.1 s2.2).bind fun v6=>(uF N x0 s2.2 s5.2).bind fun v7=>(idx s5.1 s2.2).bind fun v8=>some (.inl ((List.set s5.1 (Int.toNat s2.2) (min v6 v7)),(IntKind.i64.wrap (s5.2+1))))) else (some (.inr s5.1))
def lY (N:Nat) (x0:GWork) (s2:((List Int)×Int)):Option (((List Int)×Int) ⊕ (List Int)) :=
  bif (ax .lss s2.2 (List.length x0.Items:Int)) then ((idx x0.Items s2.2).bind fun v3=>(idx s2.1 s2.2).bind fun v4=>(bM (lZ N x0 s2 v3) N ((List.set s2.1 (Int.toNat s2.2) 1152921504606846976),0)).bind fun Dp=>some (.inl (Dp,(IntKind.i64.wrap (s2.2+1))))) else (some (.inr s2.1))
def pO (N:Nat) (x0:GWork):Option ((List Int)) :=
  (mk 0 (List.length x0.Items:Int) (List.length x0.Items:Int)).bind fun v1=>(bM (lY N x0) N (v1,0)).bind fun RV=>some RV
def qU (N:Nat) (x0:GWork):Option ((List GSlot)×Int×Int) :=
  (rQ N x0).bind fun v1=>bif (ax .neq v1 0) then (some ([],0,v1)) else ((pO N x0).bind fun v2=>(iK N x0).bind fun v3=>AL v3 (fun v3e=>none) (fun KX v3e=>(iw N KX.1 KX.2.1 KX.2.2 (some 32) v2 1152921504606846976).bind fun v4=>bif (!v4.2) then (some ([],0,29)) else ((iK N x0).bind fun v5=>AL v5 (fun v5e=>none) (fun KY v5e=>(iT N KY.1 KY.2.1 KY.2.2 (some 32) v2 v4.1).bind fun v6=>(lX N x0 v6).bind fun v7=>some (v7,v4.1,0)))))
def lG (N:Nat) (x0:GWork) (x1:(List GSlot)):Option (Int) :=
  (nY N x0 x1).bind fun v1=>some v1.2
def tN (N:Nat) (x0:GWork) (x1:(List GSlot)):Option (Int×Int) :=
  (nY N x0 x1).bind fun v1=>bif (ax .neq v1.2 0) then (some (0,v1.2)) else ((rf N x0 v1.1).bind fun v2=>some (v2,0))
def kP (N:Nat) (s1:((List Int)×Int×Int)):Option (((List Int)×Int×Int) ⊕ (List Int)) :=
  bif (ax .lss s1.2.1 s1.2.2) then ((idx s1.1 s1.2.2).bind fun v2=>(idx s1.1 s1.2.1).bind fun v3=>(idx s1.1 s1.2.1).bind fun v4=>(idx (List.set s1.1 (Int.toNat s1.2.1) v2) s1.2.2).bind fun v5=>some (.inl ((List.set (List.set s1.1 (Int.toNat s1.2.1) v2) (Int.toNat s1.2.2) v3),(IntKind.i64.wrap (s1.2.1+1)),(IntKind.i64.wrap (s1.2.2 - 1))))) else (some (.inr s1.1))
def qf (N:Nat) (x0:(List Int)):Option ((List Int)) :=
  (bM (kP N) N (x0,0,(IntKind.i64.wrap ((List.length x0:Int) - 1)))).bind fun o7=>some o7
def pq (N:Nat) (x0:bU) (s4:(Int×Int×Int)):Option ((Int×Int×Int) ⊕ (Int×Int)) :=
  bif (ax .lss s4.2.2 (List.length x0.Modes:Int)) then ((idx x0.Modes s4.2.2).bind fun v5=>some (.inl ((min s4.1 v5.iH),(min s4.2.1 (IntKind.i64.wrap (v5.iH * v5.gB))),(IntKind.i64.wrap (s4.2.2+1))))) else (some (.inr (s4.1,s4.2.1)))
def rP (N:Nat) (x0:bU):Option (Int×Int) :=
  (idx x0.Modes 0).bind fun v1=>(idx x0.Modes 0).bind fun v2=>(idx x0.Modes 0).bind fun v3=>(bM (pq N x0) N (v1.iH,(IntKind.i64.wrap (v2.iH * v3.gB)),0)).bind fun o7=>some (o7.1,o7.2)
def kX (N:Nat) (v1:(List (List Int))) (s5:((List Int)×Int)) (v6:Int) (s7:(Int×Int)):Option ((Int×Int) ⊕ Int) :=
  bif (ax .lss s7.2 (List.length v1:Int)) then ((idx v1 s7.2).bind fun v8=>(dI N v8 v6).bind fun v9=>bif v9 then ((idx s5.1 s7.2).bind fun v10=>some (.inl ((max s7.1 v10),(IntKind.i64.wrap (s7.2+1))))) else (some (.inl (s7.1,(IntKind.i64.wrap (s7.2+1)))))) else (some (.inr s7.1))
def ny (N:Nat) (x0:GWork) (v1:(List (List Int))) (v4:(List Int)) (s5:((List Int)×Int)):Option (((List Int)×Int) ⊕ (List Int)) :=
  bif (ax .lss s5.2 (List.length v4:Int)) then ((idx v4 s5.2).bind fun v6=>(bM (kX N v1 s5 v6) N (0,0)).bind fun F7=>(idx x0.Items v6).bind fun v15=>(rP N v15).bind fun v16=>(idx s5.1 v6).bind fun v17=>some (.inl ((List.set s5.1 (Int.toNat v6) (IntKind.i64.wrap (v16.1+F7))),(IntKind.i64.wrap (s5.2+1))))) else (some (.inr s5.1))
def sN (N:Nat) (x0:GWork):Option ((List Int)) :=
  (ng N x0).bind fun v1=>(mk 0 (List.length v1:Int) (List.length v1:Int)).bind fun v2=>(qB N x0).bind fun v3=>(qf N v3).bind fun v4=>(bM (ny N x0 v1 v4) N (v2,0)).bind fun SX=>some SX
def uq (N:Nat) (g0:Int) (x0:Int):Option Bool :=
  some (ax .eql x0 g0)
def ja (N:Nat) (g0:Int) (x0:(List Int)) (s1:Int):Option (Int ⊕ (Unit ⊕ Int)) :=
  bif (ax .lss s1 (List.length x0:Int)) then ((idx x0 s1).bind fun v2=>(uq N g0 v2).bind fun v3=>bif v3 then (some (.inr (Sum.inr s1))) else (some (.inl (IntKind.i64.wrap (s1+1))))) else (some (.inr (Sum.inl ())))
def iF (N:Nat) (g0:Int) (x0:(List Int)):Option Int :=
  (bM (ja N g0 x0) N 0).bind fun o6=>Sum.elim (fun l8=>some (-1)) (fun r9=>some r9) o6
def kS (N:Nat) (v1:(List Int)) (v2:(List (List Int))) (s10:(dB×Int×Int)) (v14:(Int×Int)) (s16:Int):Option (Int ⊕ Int) :=
  (bif (ax .geq s16 0) then (idx v2 s16) else some []).bind fun v17=>(bif (ax .geq s16 0) then (dI N v17 s10.2.1) else some false).bind fun v18=>bif ((ax .geq s16 0)&&(!v18)) then ((WV v1 (IntKind.i64.wrap (s16+1)) (List.length v1:Int)).bind fun v19=>(iU N v19 (IntKind.i64.wrap (s10.2.2 - v14.1))).bind fun v20=>bif (ax .lss v20 0) then (some (.inr s16)) else (some (.inl (IntKind.i64.wrap (s16+(IntKind.i64.wrap (1+v20))))))) else (some (.inr s16))
def pM (N:Nat) (x0:GWork) (v1:(List Int)) (v2:(List (List Int))) (s10:(dB×Int×Int)):Option ((dB×Int×Int) ⊕ (dB×Int)) :=
  bif (ax .gtr s10.2.2 0) then ((idx x0.Items s10.2.1).bind fun v11=>(app s10.1.Chain [v11.Name]).bind fun v12=>(idx x0.Items s10.2.1).bind fun v13=>(rP N v13).bind fun v14=>(iF N (IntKind.i64.wrap (s10.2.2 - v14.1)) v1).bind fun v15=>(bM (kS N v1 v2 s10 v14) N v15).bind fun Zb=>some (.inl (({ s10.1 with Chain:=v12 }:dB),Zb,(IntKind.i64.wrap (s10.2.2 - v14.1))))) else (some (.inr (s10.1,s10.2.2)))
def mF (N:Nat) (v1:(List Int)) (s3:(dB×Int)):Option ((dB×Int) ⊕ dB) :=
  bif (ax .lss s3.2 (List.length v1:Int)) then ((idx v1 s3.2).bind fun v4=>some (.inl (({ s3.1 with iH:=(max s3.1.iH v4) }:dB),(IntKind.i64.wrap (s3.2+1))))) else (some (.inr s3.1))
def uS (N:Nat) (x0:GWork):Option (dB) :=
  (sN N x0).bind fun v1=>(ng N x0).bind fun v2=>(bM (mF N v1) N ((⟨0,[],[]⟩:dB),0)).bind fun o6=>(iU N v1 o6.iH).bind fun v8=>(bM (pM N x0 v1 v2) N (o6,v8,o6.iH)).bind fun WN=>some WN.1
def kK (N:Nat) (x0:GWork) (x1:iD) (s1:(Int×Int)):Option ((Int×Int) ⊕ Int) :=
  bif (ax .lss s1.2 (List.length x0.Items:Int)) then ((idx x0.Items s1.2).bind fun v2=>bif (yR .eql v2.iq x1.Name) then ((rP N v2).bind fun v3=>some (.inl ((IntKind.i64.wrap (s1.1+v3.2)),(IntKind.i64.wrap (s1.2+1))))) else (some (.inl (s1.1,(IntKind.i64.wrap (s1.2+1)))))) else (some (.inr s1.1))
def rE (N:Nat) (x0:GWork) (x1:iD):Option (Int) :=
  (bM (kK N x0 x1) N (0,0)).bind fun o6=>bif (ax .eql o6 0) then (some 0) else ((Zo .i64 (IntKind.i64.wrap ((IntKind.i64.wrap (o6+x1.gB)) - 1)) x1.gB).bind fun v8=>some v8)
def kW (N:Nat) (x0:GWork) (s3:(dB×Int)):Option ((dB×Int) ⊕ dB) :=
  bif (ax .lss s3.2 (List.length x0.aY:Int)) then ((idx x0.aY s3.2).bind fun v4=>(rE N x0 v4).bind fun v5=>bif (ax .gtr v5 s3.1.iH) then (some (.inl ((⟨v5,[],v4.Name⟩:dB),(IntKind.i64.wrap (s3.2+1))))) else (some (.inl (s3.1,(IntKind.i64.wrap (s3.2+1)))))) else (some (.inr s3.1))
def sH (N:Nat) (x0:GWork):Option (dB×Int) :=
  (nO N x0).bind fun v1=>bif (ax .neq v1 0) then (some ((⟨0,[],[]⟩:dB),v1)) else ((uS N x0).bind fun v2=>(bM (kW N x0) N (v2,0)).bind fun o8=>some (o8,0))
def rM (N:Nat) (s1:(Int×Int)):Option ((Int×Int) ⊕ Int) :=
  bif (ax .gtr s1.1 0) then (some (.inl ((JW .and .i64 s1.1 (IntKind.i64.wrap (s1.1 - 1))),(IntKind.i64.wrap (s1.2+1))))) else (some (.inr s1.2))
def vI (N:Nat) (x0:Int):Option (Int) :=
  (bM (rM N) N (x0,0)).bind fun o3=>some o3
def sU (N:Nat) (x0:(List ah)) (x1:Int) (x2:Int) (s1:Int):Option (Int ⊕ (Unit ⊕ Bool)) :=
  bif (ax .lss s1 (List.length x0:Int)) then ((idx x0 s1).bind fun v2=>(SG .i64 x1 s1).bind fun v3=>bif ((ax .eql (JW .and .i64 v3 1) 1)&&(ax .lss v2.day x2)) then (some (.inr (Sum.inr false))) else (some (.inl (IntKind.i64.wrap (s1+1))))) else (some (.inr (Sum.inl ())))
def yA (N:Nat) (x0:(List ah)) (x1:Int) (x2:Int):Option (Bool) :=
  (bM (sU N x0 x1 x2) N 0).bind fun o6=>Sum.elim (fun l8=>some true) (fun r9=>some r9) o6
def nM (N:Nat) (x1:(List ah)) (x2:Int) (x3:Int) (s6:(Int×(List Int)×(List ah))):Option ((Int×(List Int)×(List ah)) ⊕ ((List Int)×(List ah))) :=
  bif (ax .lss s6.1 (List.length x1:Int)) then ((SG .i64 x2 s6.1).bind fun v7=>bif (ax .eql (JW .and .i64 v7 1) 1) then ((idx s6.2.1 s6.1).bind fun v8=>some (.inl ((IntKind.i64.wrap (s6.1+1)),(List.set s6.2.1 (Int.toNat s6.1) x3),s6.2.2))) else ((idx x1 s6.1).bind fun v9=>(idx s6.2.2 s6.1).bind fun v10=>some (.inl ((IntKind.i64.wrap (s6.1+1)),s6.2.1,(List.set s6.2.2 (Int.toNat s6.1) v9))))) else (some (.inr (s6.2.1,s6.2.2)))
def sV (N:Nat) (x0:GWork) (x1:(List ah)) (x2:Int) (x3:Int):Option ((Option (aB×(List Int)×(List ah)))×Unit) :=
  (iK N x0).bind fun v1=>AL v1 (fun v1e=>none) (fun Gn v1e=>(bM (nM N x1 x2 x3) N (0,Gn.2.1,Gn.2.2)).bind fun F7=>some ((some (Gn.1,F7.1,F7.2)),()))
def bG (N:Nat) (x0:(List ah)) (x1:(List ah)) (x2:(ah→ah→Option Int)) (s1:Int):Option (Int ⊕ (Unit ⊕ Int)) :=
  bif (ax .lss s1 (List.length x0:Int)) then ((idx x0 s1).bind fun v2=>bif (ax .geq s1 (List.length x1:Int)) then (some (.inr (Sum.inr 1))) else ((idx x1 s1).bind fun v3=>(x2 v2 v3).bind fun v4=>bif (ax .neq v4 0) then (some (.inr (Sum.inr v4))) else (some (.inl (IntKind.i64.wrap (s1+1)))))) else (some (.inr (Sum.inl ())))
def dM (N:Nat) (x0:(List ah)) (x1:(List ah)) (x2:(ah→ah→Option Int)):Option (Int) :=
  (bM (bG N x0 x1 x2) N 0).bind fun o8=>Sum.elim (fun l10=>bif (ax .lss (List.length x0:Int) (List.length x1:Int)) then (some (-1)) else (some 0)) (fun r11=>some r11) o8
def lD (N:Nat) (x0:ah) (x1:ah):Option (Int) :=
  bif (ax .neq x0.mode x1.mode) then (some (IntKind.i64.wrap (x0.mode - x1.mode))) else (some (IntKind.i64.wrap (x0.day - x1.day)))
def rO (N:Nat) (x0:(List ah)) (x1:(List ah)):Option (Int) :=
  (dM N x0 x1 (fun y0 y1=>lD N y0 y1)).bind fun v1=>some v1
def iE (N:Nat) (x0:GWork) (x2:Int) (v1:((List ah)×Int)) (v4:(List Int)) (s5:Int) (v6:Int) (s7:(Int×(Option (List ah))×Int)):Option ((Int×(Option (List ah))×Int) ⊕ (Option (List ah))) :=
  bif (ax .lss s7.2.2 v6) then ((vI N s7.2.2).bind fun v8=>(bif (!(ax .neq v8 s5)) then (yA N v1.1 s7.2.2 x2) else some false).bind fun v9=>bif ((ax .neq v8 s5)||(!v9)) then (some (.inl (s7.1,s7.2.1,(IntKind.i64.wrap (s7.2.2+1))))) else ((sV N x0 v1.1 s7.2.2 x2).bind fun v10=>AL v10 (fun v10e=>none) (fun KU v10e=>(iw N KU.1 KU.2.1 KU.2.2 (some 32) v4 (IntKind.i64.wrap (s7.1+1))).bind fun v11=>bif (!v11.2) then (some (.inl (s7.1,s7.2.1,(IntKind.i64.wrap (s7.2.2+1))))) else ((sV N x0 v1.1 s7.2.2 x2).bind fun v12=>AL v12 (fun v12e=>none) (fun KW v12e=>(iT N KW.1 KW.2.1 KW.2.2 (some 32) v4 v11.1).bind fun v13=>(bif (!(ax .lss v11.1 s7.1)) then (rO N v13 (Option.getD s7.2.1 [])) else some 0).bind fun v14=>bif ((ax .lss v11.1 s7.1)||(ax .lss v14 0)) then (some (.inl (v11.1,(some v13),(IntKind.i64.wrap (s7.2.2+1))))) else (some (.inl (s7.1,s7.2.1,(IntKind.i64.wrap (s7.2.2+1)))))))))) else (some (.inr s7.2.1))
def nN (N:Nat) (x0:GWork) (x2:Int) (v1:((List ah)×Int)) (v4:(List Int)) (s5:Int):Option (Int ⊕ (Unit ⊕ ((List GSlot)×Int×Int))) :=
  bif (ax .lss s5 (IntKind.i64.wrap ((List.length v1.1:Int)+1))) then ((Xn .i64 1 (List.length v1.1:Int)).bind fun v6=>(bM (iE N x0 x2 v1 v4 s5 v6) N (1152921504606846976,(none:(Option (List ah))),0)).bind fun NF=>Yn NF (bif (false||((ax .eql s5 0)&&(ax .eql (List.length v1.1:Int) 0))) then ((lX N x0 (Option.getD NF [])).bind fun v21=>some (.inr (Sum.inr (v21,s5,0)))) else (some (.inl (IntKind.i64.wrap (s5+1))))) ((lX N x0 (Option.getD NF [])).bind fun v23=>some (.inr (Sum.inr (v23,s5,0))))) else (some (.inr (Sum.inl ())))
def pF (N:Nat) (x0:GWork) (x1:(List GSlot)) (x2:Int):Option ((List GSlot)×Int×Int) :=
  (iW N x0 x1).bind fun v1=>bif (ax .neq v1.2 0) then (some ([],0,v1.2)) else ((fQ N x2 400).bind fun v2=>bif (!v2) then (some ([],0,2)) else ((rQ N x0).bind fun v3=>bif (ax .neq v3 0) then (some ([],0,v3)) else ((pO N x0).bind fun v4=>(bM (nN N x0 x2 v1 v4) N 0).bind fun WN=>Sum.elim (fun l29=>some ([],0,29)) (fun Xr=>some (Xr.1,Xr.2.1,Xr.2.2)) WN)))
def sW (N:Nat) (x0:GWork) (x1:(List GSlot)) (x2:Int):Option (Bool) :=
  (y9 N x0).bind fun v1=>(bif (!(!v1)) then (AY N x1) else some false).bind fun v2=>(bif (!((!v1)||(!v2))) then (qQ N x0) else some 0).bind fun v3=>(bif (!(((!v1)||(!v2))||(ax .neq v3 0))) then (wE N x0) else some 0).bind fun v4=>(bif (!((((!v1)||(!v2))||(ax .neq v3 0))||(ax .neq v4 0))) then (uV N x0 x1) else some 0).bind fun v5=>bif (((((!v1)||(!v2))||(ax .neq v3 0))||(ax .neq v4 0))||(ax .neq v5 0)) then ((wu N).bind fun v6=>some v6) else ((qR N x0).bind fun v7=>(qU N x0).bind fun v8=>bif ((ax .neq v7.2 0)||(ax .neq v8.2.2 0)) then ((bif ((ax .eql v7.2 29)&&(ax .eql v8.2.2 29)) then (lG N x0 x1) else some 0).bind fun v9=>(bif (((ax .eql v7.2 29)&&(ax .eql v8.2.2 29))&&(ax .neq v9 0)) then (wu N) else some false).bind fun v10=>some ((((ax .eql v7.2 29)&&(ax .eql v8.2.2 29))&&(ax .neq v9 0))&&v10)) else ((kU N x0 v7.1).bind fun v11=>(kU N x0 v8.1).bind fun v12=>(tN N x0 v7.1).bind fun v13=>(sH N x0).bind fun v14=>bif (((((((ax .neq v11.2 0)||(ax .neq v12.2 0))||(ax .neq v13.2 0))||(ax .neq v14.2 0))||(ax .gtr v11.1 v12.1))||(ax .gtr v8.2.1 v13.1))||(ax .gtr v14.1.iH v11.1)) then (some false) else ((((lG N x0 x1).bind fun v15=>bif (ax .eql v15 0) then ((kU N x0 x1).bind fun v16=>(tN N x0 x1).bind fun v17=>bif ((((ax .neq v16.2 0)||(ax .neq v17.2 0))||(ax .lss v16.1 v11.1))||(ax .lss v17.1 v8.2.1)) then (some (Sum.inr false)) else (some (Sum.inl ()))) else (some (Sum.inl ()))):Option (Unit ⊕ Bool)).bind fun SX=>Sum.elim (fun l22=>(Xm (IntKind.i64.wrap x2) 7).bind fun v24=>(pF N x0 x1 v24).bind fun v25=>(pF N x0 x1 (IntKind.i64.wrap (v24+1))).bind fun v26=>bif (ax .neq v26.2.2 0) then ((bif (ax .eql v26.2.2 29) then (wu N) else some false).bind fun v27=>some ((ax .eql v26.2.2 29)&&v27)) else ((bif ((ax .eql v25.2.2 0)&&(ax .leq v25.2.1 v26.2.1)) then (wu N) else some false).bind fun v28=>some (((ax .eql v25.2.2 0)&&(ax .leq v25.2.1 v26.2.1))&&v28))) (fun r23=>some r23) SX)))
end
end Go.KB
