/- The functions as plain Lean functions. Printed by a program. No condition. -/
import Derived.Test.YtalkbgomndhkmaaGreatGTypes
import Derived.Test.YtalkbgomndhkmaaGreatKSos
namespace Go.KB
set_option linter.unusedVariables false
noncomputable section
def rG (N:Nat) (x0:GPermitPlan) (s10:Int):Option (Int ⊕ (Unit ⊕ Bool)) :=
  bif (aF .lss s10 (List.length x0.aj:Int)) then ((idx x0.aj s10).bind fun v11=>(bif (!(aF .gtr (List.length v11.Locks:Int) 20)) then (idx x0.aj s10) else some (⟨[],0,[],0,0,[]⟩:aH)).bind fun v12=>bif ((aF .gtr (List.length v11.Locks:Int) 20)||(aF .gtr (List.length v12.Name:Int) 40)) then (some (.inr (Sum.inr true))) else (some (.inl (IntKind.i64.wrap (s10+1))))) else (some (.inr (Sum.inl ())))
def rF (N:Nat) (x0:GPermitPlan) (s1:Int):Option (Int ⊕ (Unit ⊕ Bool)) :=
  bif (aF .lss s1 (List.length x0.bM:Int)) then ((idx x0.bM s1).bind fun v2=>(bif (!(aF .gtr (List.length v2.Next:Int) 40)) then (idx x0.bM s1) else some (⟨[],false,[]⟩:dG)).bind fun v3=>bif ((aF .gtr (List.length v2.Next:Int) 40)||(aF .gtr (List.length v3.Name:Int) 40)) then (some (.inr (Sum.inr true))) else (some (.inl (IntKind.i64.wrap (s1+1))))) else (some (.inr (Sum.inl ())))
def y7 (N:Nat) (x0:GPermitPlan):Option (Bool) :=
  bif (((aF .gtr (List.length x0.bM:Int) 40)||(aF .gtr (List.length x0.eG:Int) 40))||(aF .gtr (List.length x0.aj:Int) 30)) then (some true) else ((dU (rF N x0) N 0).bind fun o6=>Sum.elim (fun l8=>(dU (rG N x0) N 0).bind fun Om=>Sum.elim (fun l17=>some false) (fun U2=>some U2) Om) (fun r9=>some r9) o6)
def BV (N:Nat):Option ((List cu)) :=
  some [(⟨0,2,1⟩:cu),(⟨3,0,1⟩:cu),(⟨3,1,1⟩:cu),(⟨3,2,1⟩:cu),(⟨3,3,1⟩:cu),(⟨4,4,0⟩:cu)]
def Dz (N:Nat):Option (GPermitPlan) :=
  (BV N).bind fun v1=>some (⟨[(⟨([100,101,99,107]:Str),false,[([116,97,110,107]:Str)]⟩:dG),(⟨([116,97,110,107]:Str),true,[]⟩:dG),(⟨([104,111,108,100]:Str),true,[([116,97,110,107]:Str)]⟩:dG)],v1,[(⟨([119,101,108,100]:Str),0,([100,101,99,107]:Str),0,600,[]⟩:aH),(⟨([103,111]:Str),1,([116,97,110,107]:Str),0,600,[([112,117,109,112]:Str)]⟩:aH),(⟨([112,97,105,110,116]:Str),2,([104,111,108,100]:Str),0,600,[]⟩:aH),(⟨([112,117,109,112]:Str),5,([116,97,110,107]:Str),0,600,[]⟩:aH)],60⟩:GPermitPlan)
def yR (N:Nat) (x0:Int):Option (Bool) :=
  some (((aF .geq x0 97)&&(aF .leq x0 122))||((aF .geq x0 65)&&(aF .leq x0 90)))
def tN (N:Nat) (x0:Str) (s3:Int):Option (Int ⊕ (Unit ⊕ Bool)) :=
  bif (aF .lss s3 (List.length x0:Int)) then ((idx x0 s3).bind fun v4=>(yR N ((UInt8.toNat v4:Nat):Int)).bind fun v5=>bif (((!v5)&&(aF .neq ((UInt8.toNat v4:Nat):Int) 45))&&((aF .lss ((UInt8.toNat v4:Nat):Int) 48)||(aF .gtr ((UInt8.toNat v4:Nat):Int) 57))) then (some (.inr (Sum.inr false))) else (some (.inl (IntKind.i64.wrap (s3+1))))) else (some (.inr (Sum.inl ())))
def qK (N:Nat) (x0:Str):Option (Bool) :=
  (bif (!((aF .lss (List.length x0:Int) 1)||(aF .gtr (List.length x0:Int) 12))) then (idx x0 0) else some 0).bind fun v1=>(bif (!((aF .lss (List.length x0:Int) 1)||(aF .gtr (List.length x0:Int) 12))) then (yR N ((UInt8.toNat v1:Nat):Int)) else some false).bind fun v2=>bif (((aF .lss (List.length x0:Int) 1)||(aF .gtr (List.length x0:Int) 12))||(!v2)) then (some false) else ((dU (tN N x0) N 0).bind fun o8=>Sum.elim (fun l10=>some true) (fun r11=>some r11) o8)
def pG (N:Nat) (l10:(List (Str×Bool))) (v13:dG) (s14:Int):Option (Int ⊕ (Unit ⊕ Int)) :=
  bif (aF .lss s14 (List.length v13.Next:Int)) then ((idx v13.Next s14).bind fun v15=>bif (!(jr false l10 v15)) then (some (.inr (Sum.inr 6))) else (bif (zK .eql v15 v13.Name) then (some (.inr (Sum.inr 3))) else (some (.inl (IntKind.i64.wrap (s14+1)))))) else (some (.inr (Sum.inl ())))
def pF (N:Nat) (x0:GPermitPlan) (l10:(List (Str×Bool))) (s12:Int):Option (Int ⊕ (Unit ⊕ Int)) :=
  bif (aF .lss s12 (List.length x0.bM:Int)) then ((idx x0.bM s12).bind fun v13=>(dU (pG N l10 v13) N 0).bind fun o19=>Sum.elim (fun l21=>some (.inl (IntKind.i64.wrap (s12+1)))) (fun r22=>some (.inr (Sum.inr r22))) o19) else (some (.inr (Sum.inl ())))
def pz (N:Nat) (x0:GPermitPlan) (s1:((List (Str×Bool))×Int)):Option (((List (Str×Bool))×Int) ⊕ ((List (Str×Bool)) ⊕ Int)) :=
  bif (aF .lss s1.2 (List.length x0.bM:Int)) then ((idx x0.bM s1.2).bind fun v2=>(qK N v2.Name).bind fun v3=>bif (!v3) then (some (.inr (Sum.inr 4))) else (bif (jr false s1.1 v2.Name) then (some (.inr (Sum.inr 5))) else (bif (aF .gtr (List.length v2.Next:Int) 30) then (some (.inr (Sum.inr 8))) else (some (.inl ((sG s1.1 v2.Name true),(IntKind.i64.wrap (s1.2+1)))))))) else (some (.inr (Sum.inl s1.1)))
def uj (N:Nat) (x0:GPermitPlan):Option (Int) :=
  (dU (pz N x0) N (([]:(List (Str×Bool))),0)).bind fun o8=>Sum.elim (fun l10=>(dU (pF N x0 l10) N 0).bind fun o25=>Sum.elim (fun l27=>some 0) (fun r28=>some r28) o25) (fun r11=>some r11) o8
def y8 (N:Nat) (x0:Int):Option (Bool) :=
  some ((aF .geq x0 0)&&(aF .leq x0 5))
def vI (N:Nat) (x0:dG) (c0:Str):Option (Bool) :=
  some (zK .eql x0.Name c0)
def jR (N:Nat) (x0:(List dG)) (x1:(dG→Option Bool)) (s1:Int):Option (Int ⊕ (Unit ⊕ Int)) :=
  bif (aF .lss s1 (List.length x0:Int)) then ((idx x0 s1).bind fun v2=>(x1 v2).bind fun v3=>bif v3 then (some (.inr (Sum.inr s1))) else (some (.inl (IntKind.i64.wrap (s1+1))))) else (some (.inr (Sum.inl ())))
def kN (N:Nat) (x0:(List dG)) (x1:(dG→Option Bool)):Option (Int) :=
  (dU (jR N x0 x1) N 0).bind fun o6=>Sum.elim (fun l8=>some (-1)) (fun r9=>some r9) o6
def jw (N:Nat) (x0:GPermitPlan) (x1:Str):Option (dG×Bool) :=
  (kN N x0.bM (fun y0=>vI N y0 x1)).bind fun v1=>bif (aF .lss v1 0) then (some ((⟨[],false,[]⟩:dG),false)) else ((idx x0.bM v1).bind fun v2=>some (v2,true))
def uT (N:Nat) (x0:aH) (c0:Str):Option (Bool) :=
  some (zK .eql x0.Name c0)
def jy (N:Nat) (x0:(List aH)) (x1:(aH→Option Bool)) (s1:Int):Option (Int ⊕ (Unit ⊕ Int)) :=
  bif (aF .lss s1 (List.length x0:Int)) then ((idx x0 s1).bind fun v2=>(x1 v2).bind fun v3=>bif v3 then (some (.inr (Sum.inr s1))) else (some (.inl (IntKind.i64.wrap (s1+1))))) else (some (.inr (Sum.inl ())))
def jV (N:Nat) (x0:(List aH)) (x1:(aH→Option Bool)):Option (Int) :=
  (dU (jy N x0 x1) N 0).bind fun o6=>Sum.elim (fun l8=>some (-1)) (fun r9=>some r9) o6
def oU (N:Nat) (x0:GPermitPlan) (x1:Str):Option (aH×Bool) :=
  (jV N x0.aj (fun y0=>uT N y0 x1)).bind fun v1=>bif (aF .lss v1 0) then (some ((⟨[],0,[],0,0,[]⟩:aH),false)) else ((idx x0.aj v1).bind fun v2=>some (v2,true))
def oM (N:Nat) (x0:GPermitPlan) (v17:aH) (s18:Int):Option (Int ⊕ (Unit ⊕ Int)) :=
  bif (aF .lss s18 (List.length v17.Locks:Int)) then ((idx v17.Locks s18).bind fun v19=>(oU N x0 v19).bind fun v20=>bif (!v20.2) then (some (.inr (Sum.inr 6))) else (bif ((aF .neq v20.1.Kind 5)||(aF .eql v17.Kind 5)) then (some (.inr (Sum.inr 3))) else (some (.inl (IntKind.i64.wrap (s18+1)))))) else (some (.inr (Sum.inl ())))
def oL (N:Nat) (x0:GPermitPlan) (s16:Int):Option (Int ⊕ (Unit ⊕ Int)) :=
  bif (aF .lss s16 (List.length x0.aj:Int)) then ((idx x0.aj s16).bind fun v17=>(dU (oM N x0 v17) N 0).bind fun o24=>Sum.elim (fun l26=>some (.inl (IntKind.i64.wrap (s16+1)))) (fun r27=>some (.inr (Sum.inr r27))) o24) else (some (.inr (Sum.inl ())))
def oK (N:Nat) (x0:GPermitPlan) (s1:((List (Str×Bool))×Int)):Option (((List (Str×Bool))×Int) ⊕ (Unit ⊕ Int)) :=
  bif (aF .lss s1.2 (List.length x0.aj:Int)) then ((idx x0.aj s1.2).bind fun v2=>(jw N x0 v2.Space).bind fun v3=>(qK N v2.Name).bind fun v4=>bif (!v4) then (some (.inr (Sum.inr 4))) else (bif (jr false s1.1 v2.Name) then (some (.inr (Sum.inr 5))) else ((y8 N v2.Kind).bind fun v5=>bif ((((!v5)||(aF .lss v2.From 0))||(aF .geq v2.From v2.To))||(aF .gtr v2.To 1000000)) then (some (.inr (Sum.inr 2))) else (bif (!v3.2) then (some (.inr (Sum.inr 6))) else (bif (aF .gtr (List.length v2.Locks:Int) 10) then (some (.inr (Sum.inr 8))) else (some (.inl ((sG s1.1 v2.Name true),(IntKind.i64.wrap (s1.2+1)))))))))) else (some (.inr (Sum.inl ())))
def tu (N:Nat) (x0:GPermitPlan):Option (Int) :=
  (dU (oK N x0) N (([]:(List (Str×Bool))),0)).bind fun Yo=>Sum.elim (fun l14=>(dU (oL N x0) N 0).bind fun o30=>Sum.elim (fun l32=>some 0) (fun r33=>some r33) o30) (fun r15=>some r15) Yo
def qF (N:Nat) (x0:GPermitPlan) (s2:Int):Option (Int ⊕ (Unit ⊕ Int)) :=
  bif (aF .lss s2 (List.length x0.eG:Int)) then ((idx x0.eG s2).bind fun v3=>(y8 N v3.A).bind fun v4=>(bif (!(!v4)) then (y8 N v3.B) else some false).bind fun v5=>bif ((((!v4)||(!v5))||(aF .lss v3.Reach 0))||(aF .gtr v3.Reach 2)) then (some (.inr (Sum.inr 2))) else (some (.inl (IntKind.i64.wrap (s2+1))))) else (some (.inr (Sum.inl ())))
def tV (N:Nat) (x0:GPermitPlan):Option (Int) :=
  bif (((aF .gtr (List.length x0.bM:Int) 30)||(aF .gtr (List.length x0.eG:Int) 30))||(aF .gtr (List.length x0.aj:Int) 20)) then (some 8) else (bif ((aF .lss x0.fU 1)||(aF .gtr x0.fU 10000)) then (some 2) else ((uj N x0).bind fun v1=>bif (aF .neq v1 0) then (some v1) else ((dU (qF N x0) N 0).bind fun o8=>Sum.elim (fun l10=>(tu N x0).bind fun v12=>some v12) (fun r11=>some r11) o8)))
def lN (N:Nat) (x0:(List Str)) (x1:Str) (s1:Int):Option (Int ⊕ (Unit ⊕ Int)) :=
  bif (aF .lss s1 (List.length x0:Int)) then ((idx x0 s1).bind fun v2=>bif (zK .eql x1 v2) then (some (.inr (Sum.inr s1))) else (some (.inl (IntKind.i64.wrap (s1+1))))) else (some (.inr (Sum.inl ())))
def qM (N:Nat) (x0:(List Str)) (x1:Str):Option (Int) :=
  (dU (lN N x0 x1) N 0).bind fun o5=>Sum.elim (fun l7=>some (-1)) (fun r8=>some r8) o5
def iM (N:Nat) (x0:(List Str)) (x1:Str):Option (Bool) :=
  (qM N x0 x1).bind fun v1=>some (aF .geq v1 0)
def rU (N:Nat) (x0:GPermitPlan) (x1:Str) (x2:Str):Option (Int) :=
  (jw N x0 x1).bind fun v1=>(jw N x0 x2).bind fun v2=>bif (zK .eql x1 x2) then (some 0) else ((iM N v1.1.Next x2).bind fun v3=>(bif (!v3) then (iM N v2.1.Next x1) else some false).bind fun v4=>bif (v3||v4) then (some 1) else (some 2))
def FH (N:Nat) (x0:GPermitPlan) (x1:Str) (x2:Str):Option (Int×Int) :=
  (tV N x0).bind fun v1=>bif (aF .neq v1 0) then (some (0,v1)) else ((jw N x0 x1).bind fun v2=>(jw N x0 x2).bind fun v3=>bif ((!v2.2)||(!v3.2)) then (some (0,6)) else ((rU N x0 x1 x2).bind fun v4=>some (v4,0)))
def mV (N:Nat) (x0:(List dG)):Option ((List dG)) :=
  (app ([]:(List dG)) x0).bind fun v1=>some v1
def jJ (N:Nat) (x0:(List cu)):Option ((List cu)) :=
  (app ([]:(List cu)) x0).bind fun v1=>some v1
def lJ (N:Nat) (x0:(List aH)):Option ((List aH)) :=
  (app ([]:(List aH)) x0).bind fun v1=>some v1
def iE (N:Nat) (x0:(List Str)):Option ((List Str)) :=
  (app ([]:(List Str)) x0).bind fun v1=>some v1
def qU (N:Nat) (v3:(List aH)) (s14:(Int×(List aH))):Option ((Int×(List aH)) ⊕ (List aH)) :=
  bif (aF .lss s14.1 (List.length v3:Int)) then ((idx s14.2 s14.1).bind fun v15=>(iE N v15.Locks).bind fun v16=>(idx s14.2 s14.1).bind fun v17=>some (.inl ((IntKind.i64.wrap (s14.1+1)),(List.set s14.2 (Int.toNat s14.1) ({ v17 with Locks:=v16 }:aH))))) else (some (.inr s14.2))
def qR (N:Nat) (v1:(List dG)) (s7:(Int×(List dG))):Option ((Int×(List dG)) ⊕ (List dG)) :=
  bif (aF .lss s7.1 (List.length v1:Int)) then ((idx s7.2 s7.1).bind fun v8=>(iE N v8.Next).bind fun v9=>(idx s7.2 s7.1).bind fun v10=>some (.inl ((IntKind.i64.wrap (s7.1+1)),(List.set s7.2 (Int.toNat s7.1) ({ v10 with Next:=v9 }:dG))))) else (some (.inr s7.2))
def yT (N:Nat) (x0:GPermitPlan):Option (GPermitPlan) :=
  (mV N x0.bM).bind fun v1=>(jJ N x0.eG).bind fun v2=>(lJ N x0.aj).bind fun v3=>(dU (qR N v1) N (0,v1)).bind fun Yo=>(dU (qU N v3) N (0,v3)).bind fun o19=>some ({ ({ x0 with eG:=v2 }:GPermitPlan) with bM:=Yo,aj:=o19 }:GPermitPlan)
def oq (N:Nat) (x0:(List Int)) (x1:Int) (s1:Int):Option (Int ⊕ (Unit ⊕ Int)) :=
  bif (aF .lss s1 (List.length x0:Int)) then ((idx x0 s1).bind fun v2=>bif (aF .eql x1 v2) then (some (.inr (Sum.inr s1))) else (some (.inl (IntKind.i64.wrap (s1+1))))) else (some (.inr (Sum.inl ())))
def ve (N:Nat) (x0:(List Int)) (x1:Int):Option (Int) :=
  (dU (oq N x0 x1) N 0).bind fun o5=>Sum.elim (fun l7=>some (-1)) (fun r8=>some r8) o5
def qw (N:Nat) (x0:(List Int)) (x1:Int):Option (Bool) :=
  (ve N x0 x1).bind fun v1=>some (aF .geq v1 0)
def fG (N:Nat) (g0:af) (aS:(List (Str×ah))) (aJ:(List (Str×au))) (aO:(List (Str×Str))) (x1:Str) (x2:(List Int)):Option Bool :=
  (qw N x2 ((jr (⟨0,[],0⟩:ah) aS x1).state)).bind fun v1=>some v1
def gB (N:Nat) (g0:af) (aS:(List (Str×ah))) (aJ:(List (Str×au))) (aO:(List (Str×Str))) (x1:Str) (x2:Int):Option (List (Str×ah)) :=
  some (sG aS x1 ({ (jr (⟨0,[],0⟩:ah) aS x1) with state:=x2 }:ah))
def uy (N:Nat) (x0:GPermitPlan) (v1:(dG×Bool)) (s11:((List Str)×Int)):Option (((List Str)×Int) ⊕ (List Str)) :=
  bif (aF .lss s11.2 (List.length x0.bM:Int)) then ((idx x0.bM s11.2).bind fun v12=>(bif v12.dH then (rU N x0 v12.Name v1.1.Name) else some 0).bind fun v13=>bif (v12.dH&&(aF .eql v13 1)) then ((app s11.1 [v12.Name]).bind fun v14=>some (.inl (v14,(IntKind.i64.wrap (s11.2+1))))) else (some (.inl (s11.1,(IntKind.i64.wrap (s11.2+1)))))) else (some (.inr s11.1))
def zF (N:Nat) (x0:GPermitPlan) (x1:aH):Option ((List Str)) :=
  (jw N x0 x1.Space).bind fun v1=>((((bif (aF .eql x1.Kind 0) then (some (aF .eql x1.Kind 0)) else (bif (aF .eql x1.Kind 1) then (some (aF .eql x1.Kind 1)) else (some (aF .eql x1.Kind 2)))):Option Bool).bind fun o4=>bif o4 then (bif v1.1.dH then ((app [] [v1.1.Name]).bind fun v6=>some v6) else (some [])) else (some [])):Option (List Str)).bind fun o9=>bif (aF .eql x1.Kind 0) then ((dU (uy N x0 v1) N (o9,0)).bind fun o17=>some o17) else (some o9)
def su (N:Nat) (g0:af) (aS:(List (Str×ah))) (aJ:(List (Str×au))) (aO:(List (Str×Str))) (x1:Str):Option (Bool×Bool) :=
  (jw N g0.plan x1).bind fun v1=>bif (!v1.1.dH) then (some (true,true)) else (some ((((((pX aJ x1)&&(aF .leq (IntKind.i64.wrap (g0.now - ((jr (⟨0,0,0⟩:au) aJ x1).at_))) g0.plan.fU))&&(aF .geq ((jr (⟨0,0,0⟩:au) aJ x1).nO) 195))&&(aF .leq ((jr (⟨0,0,0⟩:au) aJ x1).nO) 235))&&(aF .leq ((jr (⟨0,0,0⟩:au) aJ x1).QG) 50)),((((((pX aJ x1)&&(aF .leq (IntKind.i64.wrap (g0.now - ((jr (⟨0,0,0⟩:au) aJ x1).at_))) g0.plan.fU))&&(aF .geq ((jr (⟨0,0,0⟩:au) aJ x1).nO) 195))&&(aF .leq ((jr (⟨0,0,0⟩:au) aJ x1).nO) 235))&&(aF .leq ((jr (⟨0,0,0⟩:au) aJ x1).QG) 50))&&(aF .leq ((jr (⟨0,0,0⟩:au) aJ x1).QG) 10))))
def nJ (N:Nat) (g0:af) (aS:(List (Str×ah))) (aJ:(List (Str×au))) (aO:(List (Str×Str))) (x0:Str) (c1:aH):Option Bool :=
  (su N g0 aS aJ aO x0).bind fun v1=>bif (aF .eql c1.Kind 0) then (some v1.2) else (some v1.1)
def iq (N:Nat) (g0:af) (aS:(List (Str×ah))) (aJ:(List (Str×au))) (aO:(List (Str×Str))) (x0:(List Str)) (qm:aH) (s1:Int):Option (Int ⊕ (Unit ⊕ Int)) :=
  bif (aF .lss s1 (List.length x0:Int)) then ((idx x0 s1).bind fun v2=>(nJ N g0 aS aJ aO v2 qm).bind fun v3=>bif v3 then (some (.inr (Sum.inr s1))) else (some (.inl (IntKind.i64.wrap (s1+1))))) else (some (.inr (Sum.inl ())))
def iD (N:Nat) (g0:af) (aS:(List (Str×ah))) (aJ:(List (Str×au))) (aO:(List (Str×Str))) (x0:(List Str)) (qm:aH):Option Int :=
  (dU (iq N g0 aS aJ aO x0 qm) N 0).bind fun o6=>Sum.elim (fun l8=>some (-1)) (fun r9=>some r9) o6
def gX (N:Nat) (g0:af) (aS:(List (Str×ah))) (aJ:(List (Str×au))) (aO:(List (Str×Str))) (qm:aH) (s2:((List Str)×Int×Int)):Option (((List Str)×Int×Int) ⊕ ((List Str)×Int)) :=
  bif (aF .lss s2.2.2 (List.length s2.1:Int)) then ((idx s2.1 s2.2.2).bind fun v3=>(nJ N g0 aS aJ aO v3 qm).bind fun v4=>bif (!v4) then ((idx s2.1 s2.2.1).bind fun v5=>some (.inl ((List.set s2.1 (Int.toNat s2.2.1) v3),(IntKind.i64.wrap (s2.2.1+1)),(IntKind.i64.wrap (s2.2.2+1))))) else (some (.inl (s2.1,s2.2.1,(IntKind.i64.wrap (s2.2.2+1)))))) else (some (.inr (s2.1,s2.2.1)))
def iy (N:Nat) (g0:af) (aS:(List (Str×ah))) (aJ:(List (Str×au))) (aO:(List (Str×Str))) (x0:(List Str)) (qm:aH):Option (List Str) :=
  (iD N g0 aS aJ aO x0 qm).bind fun v1=>bif (aF .eql v1 (-1)) then (some x0) else ((dU (gX N g0 aS aJ aO qm) N (x0,v1,(IntKind.i64.wrap (v1+1)))).bind fun o8=>(NF o8.1 o8.2 (List.length o8.1:Int)).bind fun v10=>(bif Nat.beq ((Int.toNat o8.2)+(Int.toNat (List.length o8.1:Int) - Int.toNat o8.2)) (List.length o8.1) then some (List.take (Int.toNat o8.2) o8.1 ++ List.replicate (Int.toNat (List.length o8.1:Int) - Int.toNat o8.2) []) else none).bind fun v11=>(NF v11 0 o8.2).bind fun v12=>some v12)
def oh (N:Nat) (g0:af) (aS:(List (Str×ah))) (aJ:(List (Str×au))) (aO:(List (Str×Str))) (x1:aH):Option (List Str) :=
  (zF N g0.plan x1).bind fun v1=>(iy N g0 aS aJ aO v1 x1).bind fun v2=>some v2
def lm (N:Nat) (g0:af) (aS:(List (Str×ah))) (aJ:(List (Str×au))) (aO:(List (Str×Str))) (x0:Str):Option Bool :=
  (fG N g0 aS aJ aO x0 [2]).bind fun v1=>some v1
def gY (N:Nat) (g0:af) (aS:(List (Str×ah))) (aJ:(List (Str×au))) (aO:(List (Str×Str))) (x0:(List Str)) (s1:Int):Option (Int ⊕ (Unit ⊕ Int)) :=
  bif (aF .lss s1 (List.length x0:Int)) then ((idx x0 s1).bind fun v2=>(lm N g0 aS aJ aO v2).bind fun v3=>bif v3 then (some (.inr (Sum.inr s1))) else (some (.inl (IntKind.i64.wrap (s1+1))))) else (some (.inr (Sum.inl ())))
def iC (N:Nat) (g0:af) (aS:(List (Str×ah))) (aJ:(List (Str×au))) (aO:(List (Str×Str))) (x0:(List Str)):Option Int :=
  (dU (gY N g0 aS aJ aO x0) N 0).bind fun o6=>Sum.elim (fun l8=>some (-1)) (fun r9=>some r9) o6
def fE (N:Nat) (g0:af) (aS:(List (Str×ah))) (aJ:(List (Str×au))) (aO:(List (Str×Str))) (s2:((List Str)×Int×Int)):Option (((List Str)×Int×Int) ⊕ ((List Str)×Int)) :=
  bif (aF .lss s2.2.2 (List.length s2.1:Int)) then ((idx s2.1 s2.2.2).bind fun v3=>(lm N g0 aS aJ aO v3).bind fun v4=>bif (!v4) then ((idx s2.1 s2.2.1).bind fun v5=>some (.inl ((List.set s2.1 (Int.toNat s2.2.1) v3),(IntKind.i64.wrap (s2.2.1+1)),(IntKind.i64.wrap (s2.2.2+1))))) else (some (.inl (s2.1,s2.2.1,(IntKind.i64.wrap (s2.2.2+1)))))) else (some (.inr (s2.1,s2.2.1)))
def jc (N:Nat) (g0:af) (aS:(List (Str×ah))) (aJ:(List (Str×au))) (aO:(List (Str×Str))) (x0:(List Str)):Option (List Str) :=
  (iC N g0 aS aJ aO x0).bind fun v1=>bif (aF .eql v1 (-1)) then (some x0) else ((dU (fE N g0 aS aJ aO) N (x0,v1,(IntKind.i64.wrap (v1+1)))).bind fun o8=>(NF o8.1 o8.2 (List.length o8.1:Int)).bind fun v10=>(bif Nat.beq ((Int.toNat o8.2)+(Int.toNat (List.length o8.1:Int) - Int.toNat o8.2)) (List.length o8.1) then some (List.take (Int.toNat o8.2) o8.1 ++ List.replicate (Int.toNat (List.length o8.1:Int) - Int.toNat o8.2) []) else none).bind fun v11=>(NF v11 0 o8.2).bind fun v12=>some v12)
def mQ (N:Nat) (g0:af) (aS:(List (Str×ah))) (aJ:(List (Str×au))) (aO:(List (Str×Str))) (x1:aH):Option (List Str) :=
  (iE N x1.Locks).bind fun v1=>(jc N g0 aS aJ aO v1).bind fun v2=>some v2
def lY (N:Nat) (g0:af) (aJ:(List (Str×au))) (aO:(List (Str×Str))) (s10:(Bool×Int×(List (Str×ah)))):Option ((Bool×Int×(List (Str×ah))) ⊕ (Bool×(List (Str×ah)))) :=
  bif (aF .lss s10.2.1 (List.length g0.plan.aj:Int)) then ((idx g0.plan.aj s10.2.1).bind fun v11=>(fG N g0 s10.2.2 aJ aO v11.Name [2]).bind fun v12=>(bif v12 then (oh N g0 s10.2.2 aJ aO v11) else some []).bind fun v13=>(bif (v12&&(!(aF .gtr (List.length v13:Int) 0))) then (mQ N g0 s10.2.2 aJ aO v11) else some []).bind fun v14=>bif (v12&&((aF .gtr (List.length v13:Int) 0)||(aF .gtr (List.length v14:Int) 0))) then ((gB N g0 s10.2.2 aJ aO v11.Name 3).bind fun v15=>some (.inl (true,(IntKind.i64.wrap (s10.2.1+1)),v15))) else (some (.inl (s10.1,(IntKind.i64.wrap (s10.2.1+1)),s10.2.2)))) else (some (.inr (s10.1,s10.2.2)))
def nM (N:Nat) (g0:af) (aJ:(List (Str×au))) (aO:(List (Str×Str))) (s9:(Bool×(List (Str×ah)))):Option ((Bool×(List (Str×ah))) ⊕ (List (Str×ah))) :=
  bif s9.1 then ((dU (lY N g0 aJ aO) N (false,0,s9.2)).bind fun o18=>some (.inl (o18.1,o18.2))) else (some (.inr s9.2))
def nK (N:Nat) (g0:af) (aJ:(List (Str×au))) (aO:(List (Str×Str))) (s1:(Int×(List (Str×ah)))):Option ((Int×(List (Str×ah))) ⊕ (List (Str×ah))) :=
  bif (aF .lss s1.1 (List.length g0.plan.aj:Int)) then ((idx g0.plan.aj s1.1).bind fun v2=>(fG N g0 s1.2 aJ aO v2.Name [0,1,2,3]).bind fun v3=>bif (v3&&(aF .leq ((jr (⟨0,[],0⟩:ah) s1.2 v2.Name).yQ) g0.now)) then ((gB N g0 s1.2 aJ aO v2.Name 6).bind fun v4=>some (.inl ((IntKind.i64.wrap (s1.1+1)),v4))) else (some (.inl ((IntKind.i64.wrap (s1.1+1)),s1.2)))) else (some (.inr s1.2))
def mF (N:Nat) (g0:af) (aS:(List (Str×ah))) (aJ:(List (Str×au))) (aO:(List (Str×Str))):Option (List (Str×ah)) :=
  (dU (nK N g0 aJ aO) N (0,aS)).bind fun o7=>(dU (nM N g0 aJ aO) N (true,o7)).bind fun o22=>some o22
def qE (N:Nat) (x0:GPermitPlan) (s7:(Int×(List (Str×ah)))):Option ((Int×(List (Str×ah))) ⊕ (List (Str×ah))) :=
  bif (aF .lss s7.1 (List.length x0.aj:Int)) then ((idx x0.aj s7.1).bind fun v8=>some (.inl ((IntKind.i64.wrap (s7.1+1)),(sG s7.2 v8.Name (⟨0,[],v8.To⟩:ah))))) else (some (.inr s7.2))
def sD (N:Nat) (x0:GPermitPlan):Option ((Option (af×(List (Str×ah))×(List (Str×au))×(List (Str×Str))))×(Int)) :=
  (tV N x0).bind fun v1=>bif (aF .neq v1 0) then (some (none,v1)) else ((yT N x0).bind fun v2=>(dU (qE N x0) N (0,([]:(List (Str×ah))))).bind fun Tf=>(mF N (⟨v2,0,[]⟩:af) Tf ([]:(List (Str×au))) ([]:(List (Str×Str)))).bind fun v12=>some ((some ((⟨v2,0,[]⟩:af),v12,([]:(List (Str×au))),([]:(List (Str×Str))))),0))
def yc (N:Nat):Option ((List bQ)) :=
  some [(⟨([116,105,99,107]:Str),([]:Str),([]:(List Int)),(some 95)⟩:bQ),(⟨([97,112,112,114,111,118,101]:Str),([110,112]:Str),[0],(some 96)⟩:bQ),(⟨([111,112,101,110]:Str),([110,112]:Str),[1],(some 97)⟩:bQ),(⟨([115,117,115,112,101,110,100]:Str),([110]:Str),[2],(some 98)⟩:bQ),(⟨([114,101,115,117,109,101]:Str),([110,112]:Str),[3],(some 97)⟩:bQ),(⟨([99,108,111,115,101]:Str),([110]:Str),[2,3],(some 99)⟩:bQ),(⟨([99,97,110,99,101,108]:Str),([110]:Str),[0,1],(some 100)⟩:bQ),(⟨([103,97,115]:Str),([115,111,103]:Str),([]:(List Int)),(some 101)⟩:bQ),(⟨([101,110,116,101,114]:Str),([112,115]:Str),([]:(List Int)),(some 102)⟩:bQ),(⟨([108,101,97,118,101]:Str),([112]:Str),([]:(List Int)),(some 103)⟩:bQ),(⟨([97,108,97,114,109]:Str),([115]:Str),([]:(List Int)),(some 104)⟩:bQ),(⟨([101,120,116,101,110,100]:Str),([110,112,116]:Str),[1,2,3],(some 105)⟩:bQ)]
def xg (N:Nat) (x0:Int):Option (Bool) :=
  some ((aF .geq x0 0)&&(aF .leq x0 1000000))
def tK (N:Nat) (x0:(Option (af×Value×Value×Value))) (x1:GEvent):Option ((List Str)×Int) :=
  (yc N).bind fun v1=>bif (Option.isNone x0) then (some ([],1)) else ((bif (!((aF .lss x1.Op 0)||(aF .geq x1.Op (List.length v1:Int)))) then (xg N x1.At) else some false).bind fun v2=>bif (((aF .lss x1.Op 0)||(aF .geq x1.Op (List.length v1:Int)))||(!v2)) then (some ([],2)) else (none))
def vZ (N:Nat) (x0:(List Str)) (x1:(List Str)) (s1:Int):Option (Int ⊕ (Unit ⊕ Bool)) :=
  bif (aF .lss s1 (List.length x0:Int)) then ((idx x0 s1).bind fun v2=>(idx x1 s1).bind fun v3=>bif (zK .neq v2 v3) then (some (.inr (Sum.inr false))) else (some (.inl (IntKind.i64.wrap (s1+1))))) else (some (.inr (Sum.inl ())))
def yG (N:Nat) (x0:(List Str)) (x1:(List Str)):Option (Bool) :=
  bif (aF .neq (List.length x0:Int) (List.length x1:Int)) then (some false) else ((dU (vZ N x0 x1) N 0).bind fun o6=>Sum.elim (fun l8=>some true) (fun r9=>some r9) o6)
def yH (N:Nat) (g0:af) (aS:(List (Str×ah))) (aJ:(List (Str×au))) (aO:(List (Str×Str))) (x1:GEvent):Option ax :=
  some (⟨[],0⟩:ax)
def kM (N:Nat) (x0:Int) (x1:(List Str)):Option (ax) :=
  some (⟨x1,x0⟩:ax)
def qo (N:Nat) (g0:af) (aS:(List (Str×ah))) (aJ:(List (Str×au))) (aO:(List (Str×Str))) (x1:GEvent):Option ((List (Str×ah))×ax) :=
  (qK N x1.Person).bind fun v1=>bif (!v1) then ((kM N 4 ([]:(List Str))).bind fun v2=>some (aS,v2)) else (some ((sG aS x1.Name ({ ({ (jr (⟨0,[],0⟩:ah) aS x1.Name) with state:=1 }:ah) with zS:=x1.Person }:ah)),(⟨[],0⟩:ax)))
def sS (N:Nat) (g0:af) (aS:(List (Str×ah))) (aJ:(List (Str×au))) (aO:(List (Str×Str))) (x1:aH):Option aH :=
  some x1
def uS (N:Nat) (x0:cu) (c0:Int) (c1:aH) (c2:aH):Option (Bool) :=
  some ((aF .leq c0 x0.Reach)&&(((aF .eql x0.A c1.Kind)&&(aF .eql x0.B c2.Kind))||((aF .eql x0.A c2.Kind)&&(aF .eql x0.B c1.Kind))))
def iR (N:Nat) (x0:(List cu)) (x1:(cu→Option Bool)) (s1:Int):Option (Int ⊕ (Unit ⊕ Int)) :=
  bif (aF .lss s1 (List.length x0:Int)) then ((idx x0 s1).bind fun v2=>(x1 v2).bind fun v3=>bif v3 then (some (.inr (Sum.inr s1))) else (some (.inl (IntKind.i64.wrap (s1+1))))) else (some (.inr (Sum.inl ())))
def jl (N:Nat) (x0:(List cu)) (x1:(cu→Option Bool)):Option (Int) :=
  (dU (iR N x0 x1) N 0).bind fun o6=>Sum.elim (fun l8=>some (-1)) (fun r9=>some r9) o6
def jL (N:Nat) (x0:(List cu)) (x1:(cu→Option Bool)):Option (Bool) :=
  (jl N x0 x1).bind fun v1=>some (aF .geq v1 0)
def wF (N:Nat) (x0:GPermitPlan) (x1:aH) (x2:aH):Option (Bool) :=
  bif (zK .eql x1.Name x2.Name) then (some false) else ((rU N x0 x1.Space x2.Space).bind fun v1=>(jL N x0.eG (fun y0=>uS N y0 v1 x1 x2)).bind fun v2=>some v2)
def nY (N:Nat) (g0:af) (aS:(List (Str×ah))) (aJ:(List (Str×au))) (aO:(List (Str×Str))) (x0:aH) (c1:aH):Option Bool :=
  (wF N g0.plan x0 c1).bind fun v1=>some v1
def iL (N:Nat) (g0:af) (aS:(List (Str×ah))) (aJ:(List (Str×au))) (aO:(List (Str×Str))) (qm:aH) (s1:((List Str)×Int)):Option (((List Str)×Int) ⊕ (List Str)) :=
  bif (aF .lss s1.2 (List.length g0.plan.aj:Int)) then ((idx g0.plan.aj s1.2).bind fun v2=>(fG N g0 aS aJ aO v2.Name [2]).bind fun v3=>(bif v3 then (nY N g0 aS aJ aO v2 qm) else some false).bind fun v4=>bif (v3&&v4) then ((app s1.1 [v2.Name]).bind fun v5=>some (.inl (v5,(IntKind.i64.wrap (s1.2+1))))) else (some (.inl (s1.1,(IntKind.i64.wrap (s1.2+1)))))) else (some (.inr s1.1))
def jP (N:Nat) (g0:af) (aS:(List (Str×ah))) (aJ:(List (Str×au))) (aO:(List (Str×Str))) (qm:aH):Option (List Str) :=
  (dU (iL N g0 aS aJ aO qm) N ([],0)).bind fun o8=>some o8
def oP (N:Nat) (g0:af) (aS:(List (Str×ah))) (aJ:(List (Str×au))) (x0:Str) (c1:aH):Option Bool :=
  (rU N g0.plan x0 c1.Space).bind fun v1=>some (aF .leq v1 1)
def oQ (N:Nat) (x0:(List Str)):Option ((List Str)):=QS x0
def jb (N:Nat) (g0:af) (aS:(List (Str×ah))) (aJ:(List (Str×au))) (qm:aH) (s2:(List Str)) (p3:(Str×Str)):Option (List Str) :=
  (oP N g0 aS aJ p3.2 qm).bind fun v5=>bif v5 then ((app s2 [p3.1]).bind fun v6=>some v6) else (some s2)
def jv (N:Nat) (g0:af) (aS:(List (Str×ah))) (aJ:(List (Str×au))) (aO:(List (Str×Str))) (qm:aH):Option (List Str) :=
  Ko aO fun q4p=>(MF (jb N g0 aS aJ qm) q4p []).bind fun s2=>(oQ N s2).bind fun v8=>some v8
def iH {S:Type} (N:Nat) (Y:S→bV→Option (S×Bool)) (o8:(List bV)) (s10:(Int×S)):Option ((Int×S) ⊕ (S ⊕ S)) :=
  bif (aF .lss s10.1 (List.length o8:Int)) then ((idx o8 s10.1).bind fun v11=>(bif (aF .gtr (List.length v11.Names:Int) 0) then (Y s10.2 v11) else some (s10.2,false)).bind fun v12=>bif ((aF .gtr (List.length v11.Names:Int) 0)&&(!v12.2)) then (some (.inr (Sum.inr v12.1))) else (some (.inl ((IntKind.i64.wrap (s10.1+1)),v12.1)))) else (some (.inr (Sum.inl s10.2)))
def mJ {S:Type} (N:Nat) (Y:S→bV→Option (S×Bool)) (y0:S) (g0:af) (aS:(List (Str×ah))) (aJ:(List (Str×au))) (aO:(List (Str×Str))) (c1:aH):Option S :=
  (bif (aF .lss g0.now c1.From) then (Y y0 (⟨2,[]⟩:bV)) else some (y0,false)).bind fun v1=>bif ((aF .lss g0.now c1.From)&&(!v1.2)) then (some v1.1) else ((mQ N g0 aS aJ aO c1).bind fun v2=>(jP N g0 aS aJ aO c1).bind fun v3=>(oh N g0 aS aJ aO c1).bind fun v4=>((bif (aF .eql c1.Kind 3) then ((jv N g0 aS aJ aO c1).bind fun v5=>(app [(⟨18,v2⟩:bV),(⟨20,v3⟩:bV),(⟨21,v4⟩:bV)] [(⟨17,v5⟩:bV)]).bind fun v6=>some v6) else (some [(⟨18,v2⟩:bV),(⟨20,v3⟩:bV),(⟨21,v4⟩:bV)])):Option (List bV)).bind fun o8=>(dU (iH N Y o8) N (0,v1.1)).bind fun Om=>Sum.elim (fun l17=>some l17) (fun U2=>some U2) Om)
def jI (N:Nat) (s7:ax) (i8:bV):Option (ax×Option Nat) :=
  (kM N i8.Err i8.Names).bind fun v12=>some (v12,some 0)
def pq (N:Nat) (g0:af) (aS:(List (Str×ah))) (aJ:(List (Str×au))) (aO:(List (Str×Str))) (x1:GEvent):Option ((List (Str×ah))×ax) :=
  (qK N x1.Person).bind fun v1=>bif (!v1) then ((kM N 4 ([]:(List Str))).bind fun v2=>some (aS,v2)) else (bif (zK .eql x1.Person ((jr (⟨0,[],0⟩:ah) aS x1.Name).zS)) then ((kM N 26 ([]:(List Str))).bind fun v3=>some (aS,v3)) else ((oU N g0.plan x1.Name).bind fun v4=>(sS N g0 aS aJ aO v4.1).bind fun v5=>(mJ N (yl (jI N) 1) ((⟨[],0⟩:ax),none) g0 aS aJ aO v5).bind fun U3=>Me U3 (fun TI=>(gB N g0 aS aJ aO x1.Name 2).bind fun v14=>some (v14,(⟨[],0⟩:ax))) (fun TI=>some (aS,TI))))
def vV (N:Nat) (g0:af) (aS:(List (Str×ah))) (aJ:(List (Str×au))) (aO:(List (Str×Str))) (x1:GEvent):Option ((List (Str×ah))×ax) :=
  (gB N g0 aS aJ aO x1.Name 3).bind fun v1=>some (v1,(⟨[],0⟩:ax))
def kC (N:Nat) (x0:aH) (c0:aH):Option (Bool) :=
  (iM N x0.Locks c0.Name).bind fun v1=>some v1
def lD (N:Nat) (g0:af) (aS:(List (Str×ah))) (aJ:(List (Str×au))) (aO:(List (Str×Str))) (x1:(aH→Option Bool)) (s1:((List Str)×Int)):Option (((List Str)×Int) ⊕ (List Str)) :=
  bif (aF .lss s1.2 (List.length g0.plan.aj:Int)) then ((idx g0.plan.aj s1.2).bind fun v2=>(fG N g0 aS aJ aO v2.Name [2]).bind fun v3=>(bif v3 then (x1 v2) else some false).bind fun v4=>bif (v3&&v4) then ((app s1.1 [v2.Name]).bind fun v5=>some (.inl (v5,(IntKind.i64.wrap (s1.2+1))))) else (some (.inl (s1.1,(IntKind.i64.wrap (s1.2+1)))))) else (some (.inr s1.1))
def iI (N:Nat) (g0:af) (aS:(List (Str×ah))) (aJ:(List (Str×au))) (aO:(List (Str×Str))) (x1:(aH→Option Bool)):Option (List Str) :=
  (dU (lD N g0 aS aJ aO x1) N ([],0)).bind fun o8=>some o8
def kD (N:Nat) (x0:aH) (c0:aH):Option (Bool) :=
  some (((aF .eql x0.Kind 1)&&(zK .eql x0.Space c0.Space))&&(zK .neq x0.Name c0.Name))
def kE (N:Nat) (x0:Str) (c0:aH):Option (Bool) :=
  some (zK .eql x0 c0.Space)
def oD (N:Nat) (x1:(Str→Option Bool)) (s2:(List Str)) (p3:(Str×Str)):Option (List Str) :=
  (x1 p3.2).bind fun v5=>bif v5 then ((app s2 [p3.1]).bind fun v6=>some v6) else (some s2)
def mZ (N:Nat) (g0:af) (aS:(List (Str×ah))) (aJ:(List (Str×au))) (aO:(List (Str×Str))) (x1:(Str→Option Bool)):Option (List Str) :=
  Ko aO fun q4p=>(MF (oD N x1) q4p []).bind fun s2=>(oQ N s2).bind fun v8=>some v8
def oJ (N:Nat) (g0:af) (aS:(List (Str×ah))) (aJ:(List (Str×au))) (aO:(List (Str×Str))) (x1:GEvent):Option ((List (Str×ah))×ax) :=
  (oU N g0.plan x1.Name).bind fun v1=>(jw N g0.plan v1.1.Space).bind fun v2=>((bif (aF .eql v1.1.Kind 5) then ((iI N g0 aS aJ aO (fun y0=>kC N y0 v1.1)).bind fun v3=>bif (aF .gtr (List.length v3:Int) 0) then ((kM N 20 v3).bind fun v4=>some (Sum.inr v4)) else (some (Sum.inl (⟨[],0⟩:ax)))) else ((bif (aF .eql v1.1.Kind 1) then (fG N g0 aS aJ aO v1.1.Name [2]) else some false).bind fun v6=>bif (((aF .eql v1.1.Kind 1)&&v6)&&v2.1.dH) then ((iI N g0 aS aJ aO (fun y0=>kD N y0 v1.1)).bind fun v7=>(mZ N g0 aS aJ aO (fun y0=>kE N y0 v1.1)).bind fun v8=>bif ((aF .eql (List.length v7:Int) 0)&&(aF .gtr (List.length v8:Int) 0)) then ((kM N 21 v8).bind fun v9=>some (Sum.inr v9)) else (some (Sum.inl (⟨[],0⟩:ax)))) else (some (Sum.inl (⟨[],0⟩:ax))))):Option (ax ⊕ ax)).bind fun U3=>Sum.elim (fun l15=>(gB N g0 aS aJ aO x1.Name 4).bind fun v17=>some (v17,(⟨[],0⟩:ax))) (fun r16=>some (aS,r16)) U3
def wZ (N:Nat) (g0:af) (aS:(List (Str×ah))) (aJ:(List (Str×au))) (aO:(List (Str×Str))) (x1:GEvent):Option ((List (Str×ah))×ax) :=
  (gB N g0 aS aJ aO x1.Name 5).bind fun v1=>some (v1,(⟨[],0⟩:ax))
def sW (N:Nat) (g0:af) (aS:(List (Str×ah))) (aJ:(List (Str×au))) (aO:(List (Str×Str))) (x1:GEvent):Option ((List (Str×au))×ax) :=
  (jw N g0.plan x1.Space).bind fun v1=>bif (!v1.2) then ((kM N 6 ([]:(List Str))).bind fun v2=>some (aJ,v2)) else (bif ((((aF .lss x1.oz 0)||(aF .gtr x1.oz 1000))||(aF .lss x1.GY 0))||(aF .gtr x1.GY 1000)) then ((kM N 2 ([]:(List Str))).bind fun v3=>some (aJ,v3)) else (some ((sG aJ x1.Space (⟨g0.now,x1.oz,x1.GY⟩:au)),(⟨[],0⟩:ax))))
def nH (N:Nat) (x0:aH) (c0:Str):Option (Bool) :=
  some ((aF .eql x0.Kind 1)&&(zK .eql x0.Space c0))
def qJ (N:Nat) (g0:af) (aS:(List (Str×ah))) (aJ:(List (Str×au))) (aO:(List (Str×Str))) (x1:Str):Option Bool :=
  (iI N g0 aS aJ aO (fun y0=>nH N y0 x1)).bind fun v1=>some (aF .gtr (List.length v1:Int) 0)
def qp (N:Nat) (g0:af) (aS:(List (Str×ah))) (aJ:(List (Str×au))) (aO:(List (Str×Str))) (x0:aH) (c1:dG):Option Bool :=
  (bif (aF .eql x0.Kind 3) then (rU N g0.plan x0.Space c1.Name) else some 0).bind fun v1=>some ((aF .eql x0.Kind 3)&&(aF .leq v1 1))
def ji (N:Nat) (g0:af) (aS:(List (Str×ah))) (aJ:(List (Str×au))) (aO:(List (Str×Str))) (qm:dG) (s1:((List Str)×Int)):Option (((List Str)×Int) ⊕ (List Str)) :=
  bif (aF .lss s1.2 (List.length g0.plan.aj:Int)) then ((idx g0.plan.aj s1.2).bind fun v2=>(fG N g0 aS aJ aO v2.Name [2]).bind fun v3=>(bif v3 then (qp N g0 aS aJ aO v2 qm) else some false).bind fun v4=>bif (v3&&v4) then ((app s1.1 [v2.Name]).bind fun v5=>some (.inl (v5,(IntKind.i64.wrap (s1.2+1))))) else (some (.inl (s1.1,(IntKind.i64.wrap (s1.2+1)))))) else (some (.inr s1.1))
def kX (N:Nat) (g0:af) (aS:(List (Str×ah))) (aJ:(List (Str×au))) (aO:(List (Str×Str))) (qm:dG):Option (List Str) :=
  (dU (ji N g0 aS aJ aO qm) N ([],0)).bind fun o8=>some o8
def rC (N:Nat) (g0:af) (aS:(List (Str×ah))) (aJ:(List (Str×au))) (aO:(List (Str×Str))) (x1:GEvent):Option ((List (Str×Str))×ax) :=
  (qK N x1.Person).bind fun v1=>bif (!v1) then ((kM N 4 ([]:(List Str))).bind fun v2=>some (aO,v2)) else ((jw N g0.plan x1.Space).bind fun v3=>bif (!v3.2) then ((kM N 6 ([]:(List Str))).bind fun v4=>some (aO,v4)) else (bif (pX aO x1.Person) then ((kM N 18 ([]:(List Str))).bind fun v5=>some (aO,v5)) else ((bif v3.1.dH then (qJ N g0 aS aJ aO v3.1.Name) else some false).bind fun v6=>bif (v3.1.dH&&(!v6)) then ((kM N 21 ([]:(List Str))).bind fun v7=>some (aO,v7)) else ((kX N g0 aS aJ aO v3.1).bind fun v8=>bif (aF .gtr (List.length v8:Int) 0) then ((kM N 17 v8).bind fun v9=>some (aO,v9)) else (some ((sG aO x1.Person v3.1.Name),(⟨[],0⟩:ax)))))))
def rD (N:Nat) (g0:af) (aS:(List (Str×ah))) (aJ:(List (Str×au))) (aO:(List (Str×Str))) (x1:GEvent):Option ((List (Str×Str))×ax) :=
  (qK N x1.Person).bind fun v1=>bif (!v1) then ((kM N 4 ([]:(List Str))).bind fun v2=>some (aO,v2)) else (bif (!(pX aO x1.Person)) then ((kM N 6 ([]:(List Str))).bind fun v3=>some (aO,v3)) else (some ((IC aO x1.Person),(⟨[],0⟩:ax))))
def ql (N:Nat) (g0:af) (aS:(List (Str×ah))) (aJ:(List (Str×au))) (aO:(List (Str×Str))) (x0:aH) (c1:GEvent):Option Bool :=
  (bif (aF .neq x0.Kind 5) then (rU N g0.plan x0.Space c1.Space) else some 0).bind fun v1=>some ((aF .neq x0.Kind 5)&&(aF .leq v1 1))
def jh (N:Nat) (g0:af) (aS:(List (Str×ah))) (aJ:(List (Str×au))) (aO:(List (Str×Str))) (qm:GEvent) (s1:((List Str)×Int)):Option (((List Str)×Int) ⊕ (List Str)) :=
  bif (aF .lss s1.2 (List.length g0.plan.aj:Int)) then ((idx g0.plan.aj s1.2).bind fun v2=>(fG N g0 aS aJ aO v2.Name [2]).bind fun v3=>(bif v3 then (ql N g0 aS aJ aO v2 qm) else some false).bind fun v4=>bif (v3&&v4) then ((app s1.1 [v2.Name]).bind fun v5=>some (.inl (v5,(IntKind.i64.wrap (s1.2+1))))) else (some (.inl (s1.1,(IntKind.i64.wrap (s1.2+1)))))) else (some (.inr s1.1))
def kW (N:Nat) (g0:af) (aS:(List (Str×ah))) (aJ:(List (Str×au))) (aO:(List (Str×Str))) (qm:GEvent):Option (List Str) :=
  (dU (jh N g0 aS aJ aO qm) N ([],0)).bind fun o8=>some o8
def mP (N:Nat) (g0:af) (aJ:(List (Str×au))) (aO:(List (Str×Str))) (v3:(List Str)) (s4:(Int×(List (Str×ah)))):Option ((Int×(List (Str×ah))) ⊕ (List (Str×ah))) :=
  bif (aF .lss s4.1 (List.length v3:Int)) then ((idx v3 s4.1).bind fun v5=>(gB N g0 s4.2 aJ aO v5 3).bind fun v6=>some (.inl ((IntKind.i64.wrap (s4.1+1)),v6))) else (some (.inr s4.2))
def rE (N:Nat) (g0:af) (aS:(List (Str×ah))) (aJ:(List (Str×au))) (aO:(List (Str×Str))) (x1:GEvent):Option ((List (Str×ah))×ax) :=
  (jw N g0.plan x1.Space).bind fun v1=>bif (!v1.2) then ((kM N 6 ([]:(List Str))).bind fun v2=>some (aS,v2)) else ((kW N g0 aS aJ aO x1).bind fun v3=>(dU (mP N g0 aJ aO v3) N (0,aS)).bind fun o8=>some (o8,(⟨[],0⟩:ax)))
def qI (N:Nat) (g0:af) (aS:(List (Str×ah))) (aJ:(List (Str×au))) (aO:(List (Str×Str))) (x1:GEvent):Option ((List (Str×ah))×ax) :=
  (qK N x1.Person).bind fun v1=>bif (!v1) then ((kM N 4 ([]:(List Str))).bind fun v2=>some (aS,v2)) else (bif ((aF .leq x1.To ((jr (⟨0,[],0⟩:ah) aS x1.Name).yQ))||(aF .gtr x1.To 1000000)) then ((kM N 2 ([]:(List Str))).bind fun v3=>some (aS,v3)) else (some ((sG aS x1.Name ({ (jr (⟨0,[],0⟩:ah) aS x1.Name) with yQ:=x1.To }:ah)),(⟨[],0⟩:ax))))
def G5 (N:Nat) (g0:af) (aS:(List (Str×ah))) (aJ:(List (Str×au))) (aO:(List (Str×Str))) (n:(Option Nat)) (x1:GEvent):Option ((List (Str×ah))×(List (Str×au))×(List (Str×Str))×ax) :=
  bif decide (n=some 95) then ((yH N g0 aS aJ aO x1).bind fun y=>some (aS,aJ,aO,y)) else (bif decide (n=some 96) then ((qo N g0 aS aJ aO x1).bind fun y=>some (y.1,aJ,aO,y.2)) else (bif decide (n=some 97) then ((pq N g0 aS aJ aO x1).bind fun y=>some (y.1,aJ,aO,y.2)) else (bif decide (n=some 98) then ((vV N g0 aS aJ aO x1).bind fun y=>some (y.1,aJ,aO,y.2)) else (bif decide (n=some 99) then ((oJ N g0 aS aJ aO x1).bind fun y=>some (y.1,aJ,aO,y.2)) else (bif decide (n=some 100) then ((wZ N g0 aS aJ aO x1).bind fun y=>some (y.1,aJ,aO,y.2)) else (bif decide (n=some 101) then ((sW N g0 aS aJ aO x1).bind fun y=>some (aS,y.1,aO,y.2)) else (bif decide (n=some 102) then ((rC N g0 aS aJ aO x1).bind fun y=>some (aS,aJ,y.1,y.2)) else (bif decide (n=some 103) then ((rD N g0 aS aJ aO x1).bind fun y=>some (aS,aJ,y.1,y.2)) else (bif decide (n=some 104) then ((rE N g0 aS aJ aO x1).bind fun y=>some (y.1,aJ,aO,y.2)) else (bif decide (n=some 105) then ((qI N g0 aS aJ aO x1).bind fun y=>some (y.1,aJ,aO,y.2)) else (none)))))))))))
def ny (N:Nat) (g0:af) (aS:(List (Str×ah))) (aJ:(List (Str×au))) (aO:(List (Str×Str))) (x1:GEvent):Option (af×(List (Str×ah))×(List (Str×au))×(List (Str×Str))×(List Str)×Int) :=
  (yc N).bind fun v1=>(bif (!((aF .lss x1.Op 0)||(aF .geq x1.Op (List.length v1:Int)))) then (xg N x1.At) else some false).bind fun v2=>bif (((aF .lss x1.Op 0)||(aF .geq x1.Op (List.length v1:Int)))||(!v2)) then (some (g0,aS,aJ,aO,[],2)) else (bif (aF .lss x1.At g0.now) then (some (g0,aS,aJ,aO,[],10)) else ((mF N ({ g0 with now:=x1.At }:af) aS aJ aO).bind fun v3=>(idx v1 x1.Op).bind fun v4=>((bif (!(List.isEmpty v4.states)) then ((oU N (({ g0 with now:=x1.At }:af).plan) x1.Name).bind fun v5=>bif (!v5.2) then (some (Sum.inr ([],6))) else ((fG N ({ g0 with now:=x1.At }:af) v3 aJ aO x1.Name v4.states).bind fun v6=>bif (!v6) then (some (Sum.inr ([],18))) else (some (Sum.inl ())))) else (some (Sum.inl ()))):Option (Unit ⊕ ((List Str)×Int))).bind fun Tf=>Sum.elim (fun l12=>(G5 N ({ g0 with now:=x1.At }:af) v3 aJ aO v4.Qw x1).bind fun v14=>bif (aF .neq v14.2.2.2.e 0) then (some (({ g0 with now:=x1.At }:af),v14.1,v14.2.1,v14.2.2.1,v14.2.2.2.names,v14.2.2.2.e)) else ((mF N ({ g0 with now:=x1.At }:af) v14.1 v14.2.1 v14.2.2.1).bind fun v15=>(app (({ g0 with now:=x1.At }:af).done) [x1]).bind fun v16=>some (({ ({ g0 with now:=x1.At }:af) with done:=v16 }:af),v15,v14.2.1,v14.2.2.1,[],0))) (fun r13=>some (({ g0 with now:=x1.At }:af),v3,aJ,aO,r13.1,r13.2)) Tf))
def wX (N:Nat):Option (Bool) :=
  (Dz N).bind fun v1=>(FH N v1 ([100,101,99,107]:Str) ([104,111,108,100]:Str)).bind fun v2=>(sD N v1).bind fun v3=>Cc v3 (fun Ig=>(tK N (none:(Option (af×Value×Value×Value))) (⟨0,1,([119,101,108,100]:Str),[],([97,110,110]:Str),0,0,0⟩:GEvent)).bind fun v4=>(tK N (none:(Option (af×Value×Value×Value))) (⟨0,2,([119,101,108,100]:Str),[],([98,111,98]:Str),0,0,0⟩:GEvent)).bind fun v5=>(bif (((((aF .eql v2.2 0)&&(aF .eql v2.1 2))&&(aF .eql Ig 0))&&(aF .eql v4.2 0))&&(aF .eql v5.2 21)) then (yG N v5.1 [([116,97,110,107]:Str)]) else some false).bind fun v6=>some ((((((aF .eql v2.2 0)&&(aF .eql v2.1 2))&&(aF .eql Ig 0))&&(aF .eql v4.2 0))&&(aF .eql v5.2 21))&&v6)) (fun lG Ig=>(ny N lG.1 lG.2.1 lG.2.2.1 lG.2.2.2 (⟨0,1,([119,101,108,100]:Str),[],([97,110,110]:Str),0,0,0⟩:GEvent)).bind fun v12=>(ny N v12.1 v12.2.1 v12.2.2.1 v12.2.2.2.1 (⟨0,2,([119,101,108,100]:Str),[],([98,111,98]:Str),0,0,0⟩:GEvent)).bind fun v13=>(bif (((((aF .eql v2.2 0)&&(aF .eql v2.1 2))&&(aF .eql Ig 0))&&(aF .eql v12.2.2.2.2.2 0))&&(aF .eql v13.2.2.2.2.2 21)) then (yG N v13.2.2.2.2.1 [([116,97,110,107]:Str)]) else some false).bind fun v14=>some ((((((aF .eql v2.2 0)&&(aF .eql v2.1 2))&&(aF .eql Ig 0))&&(aF .eql v12.2.2.2.2.2 0))&&(aF .eql v13.2.2.2.2.2 21))&&v14))
def xX (N:Nat) (x0:(Option (af×Value×Value×Value))):Option ((Option (af×(List (Str×ah))×(List (Str×au))×(List (Str×Str))))×Unit) :=
  none
def jY (N:Nat) (x0:(List GEvent)):Option ((List GEvent)) :=
  (app ([]:(List GEvent)) x0).bind fun v1=>some v1
def nT (N:Nat) (g0:af) (aS:(List (Str×ah))) (aJ:(List (Str×au))) (aO:(List (Str×Str))):Option ((Option (af×(List (Str×ah))×(List (Str×au))×(List (Str×Str))))×Unit) :=
  (jY N g0.done).bind fun v6=>some ((some (({ g0 with done:=v6 }:af),aS,aJ,aO)),())
def zD (N:Nat) (x1:(List GEvent)) (s2:Int):Option (Int ⊕ (Unit ⊕ ((Option (af×(List (Str×ah))×(List (Str×au))×(List (Str×Str))))×(Int×Int)))) :=
  bif (aF .lss s2 (List.length x1:Int)) then ((idx x1 s2).bind fun v3=>(xX N (none:(Option (af×Value×Value×Value)))).bind fun v4=>Cc v4 (fun v4e=>(tK N (none:(Option (af×Value×Value×Value))) v3).bind fun v5=>bif (aF .neq v5.2 0) then (some (.inr (Sum.inr (none,(s2,v5.2))))) else (some (.inl (IntKind.i64.wrap (s2+1))))) (fun FC v4e=>(tK N (none:(Option (af×Value×Value×Value))) v3).bind fun v12=>bif (aF .neq v12.2 0) then (some (.inr (Sum.inr ((some (FC.1,FC.2.1,FC.2.2.1,FC.2.2.2)),(s2,v12.2))))) else (some (.inl (IntKind.i64.wrap (s2+1)))))) else (some (.inr (Sum.inl ())))
def kL (N:Nat) (x1:(List GEvent)) (s26:(Int×af×(List (Str×ah))×(List (Str×au))×(List (Str×Str)))):Option ((Int×af×(List (Str×ah))×(List (Str×au))×(List (Str×Str))) ⊕ ((af×(List (Str×ah))×(List (Str×au))×(List (Str×Str))) ⊕ ((Option (af×(List (Str×ah))×(List (Str×au))×(List (Str×Str))))×(Int×Int)))) :=
  bif (aF .lss s26.1 (List.length x1:Int)) then ((idx x1 s26.1).bind fun v27=>(nT N s26.2.1 s26.2.2.1 s26.2.2.2.1 s26.2.2.2.2).bind fun v28=>Cc v28 (fun v28e=>(ny N s26.2.1 s26.2.2.1 s26.2.2.2.1 s26.2.2.2.2 v27).bind fun v29=>bif (aF .neq v29.2.2.2.2.2 0) then (some (.inr (Sum.inr (none,(s26.1,v29.2.2.2.2.2))))) else (some (.inl ((IntKind.i64.wrap (s26.1+1)),v29.1,v29.2.1,v29.2.2.1,v29.2.2.2.1)))) (fun wY v28e=>(ny N s26.2.1 s26.2.2.1 s26.2.2.2.1 s26.2.2.2.2 v27).bind fun v36=>bif (aF .neq v36.2.2.2.2.2 0) then (some (.inr (Sum.inr ((some (wY.1,wY.2.1,wY.2.2.1,wY.2.2.2)),(s26.1,v36.2.2.2.2.2))))) else (some (.inl ((IntKind.i64.wrap (s26.1+1)),v36.1,v36.2.1,v36.2.2.1,v36.2.2.2.1))))) else (some (.inr (Sum.inl (s26.2.1,s26.2.2.1,s26.2.2.2.1,s26.2.2.2.2))))
def rZ (N:Nat) (x0:GPermitPlan) (x1:(List GEvent)):Option ((Option (af×(List (Str×ah))×(List (Str×au))×(List (Str×Str))))×(Int×Int)) :=
  (sD N x0).bind fun v1=>Cc v1 (fun J6=>bif (aF .neq J6 0) then (some (none,(0,J6))) else ((dU (zD N x1) N 0).bind fun Om=>Sum.elim (fun l17=>some (none,((List.length x1:Int),0))) (fun U2=>some U2) Om)) (fun Dy J6=>bif (aF .neq J6 0) then (some (none,(0,J6))) else ((dU (kL N x1) N (0,Dy.1,Dy.2.1,Dy.2.2.1,Dy.2.2.2)).bind fun o39=>Sum.elim (fun Xv=>some ((some (Xv.1,Xv.2.1,Xv.2.2.1,Xv.2.2.2)),((List.length x1:Int),0))) (fun r42=>some r42) o39))
def BQ (N:Nat) (x0:Str) (s1:Int):Option (Int ⊕ (Unit ⊕ Bool)) :=
  bif (aF .lss s1 (List.length x0:Int)) then ((idx x0 s1).bind fun v2=>bif ((!(((aF .geq ((UInt8.toNat v2:Nat):Int) 97)&&(aF .leq ((UInt8.toNat v2:Nat):Int) 122))||((aF .geq ((UInt8.toNat v2:Nat):Int) 65)&&(aF .leq ((UInt8.toNat v2:Nat):Int) 90))))&&((aF .eql s1 0)||((aF .neq ((UInt8.toNat v2:Nat):Int) 45)&&((aF .lss ((UInt8.toNat v2:Nat):Int) 48)||(aF .gtr ((UInt8.toNat v2:Nat):Int) 57))))) then (some (.inr (Sum.inr false))) else (some (.inl (IntKind.i64.wrap (s1+1))))) else (some (.inr (Sum.inl ())))
def wV (N:Nat) (x0:Str):Option (Bool) :=
  bif ((aF .lss (List.length x0:Int) 1)||(aF .gtr (List.length x0:Int) 12)) then (some false) else ((dU (BQ N x0) N 0).bind fun o5=>Sum.elim (fun l7=>some true) (fun r8=>some r8) o5)
def xP (N:Nat) (x0:GPermitPlan) (x1:Str) (s1:Int):Option (Int ⊕ (Unit ⊕ Int)) :=
  bif (aF .lss s1 (List.length x0.bM:Int)) then ((idx x0.bM s1).bind fun v2=>bif (zK .eql v2.Name x1) then (some (.inr (Sum.inr s1))) else (some (.inl (IntKind.i64.wrap (s1+1))))) else (some (.inr (Sum.inl ())))
def mD (N:Nat) (x0:GPermitPlan) (x1:Str):Option (Int) :=
  (dU (xP N x0 x1) N 0).bind fun o5=>Sum.elim (fun l7=>some (-1)) (fun r8=>some r8) o5
def xQ (N:Nat) (x0:GPermitPlan) (x1:Int) (x2:Str):Option (Bool) :=
  (mD N x0 x2).bind fun v1=>some ((aF .geq v1 0)&&(aF .lss v1 x1))
def qh (N:Nat) (x0:GPermitPlan) (s15:Int) (s16:Int):Option (Int ⊕ (Unit ⊕ Int)) :=
  (idx x0.bM s15).bind fun v17=>bif (aF .lss s16 (List.length v17.Next:Int)) then ((idx x0.bM s15).bind fun v18=>(idx v18.Next s16).bind fun v19=>(mD N x0 v19).bind fun v20=>bif (aF .lss v20 0) then (some (.inr (Sum.inr 6))) else ((idx x0.bM s15).bind fun v21=>(idx v21.Next s16).bind fun v22=>(idx x0.bM s15).bind fun v23=>bif (zK .eql v22 v23.Name) then (some (.inr (Sum.inr 3))) else (some (.inl (IntKind.i64.wrap (s16+1)))))) else (some (.inr (Sum.inl ())))
def qg (N:Nat) (x0:GPermitPlan) (s15:Int):Option (Int ⊕ (Unit ⊕ Int)) :=
  bif (aF .lss s15 (List.length x0.bM:Int)) then ((dU (qh N x0 s15) N 0).bind fun P8=>Sum.elim (fun l29=>some (.inl (IntKind.i64.wrap (s15+1)))) (fun r30=>some (.inr (Sum.inr r30))) P8) else (some (.inr (Sum.inl ())))
def qf (N:Nat) (x0:GPermitPlan) (s1:Int):Option (Int ⊕ (Unit ⊕ Int)) :=
  bif (aF .lss s1 (List.length x0.bM:Int)) then ((idx x0.bM s1).bind fun v2=>(wV N v2.Name).bind fun v3=>bif (!v3) then (some (.inr (Sum.inr 4))) else ((idx x0.bM s1).bind fun v4=>(xQ N x0 s1 v4.Name).bind fun v5=>bif v5 then (some (.inr (Sum.inr 5))) else ((idx x0.bM s1).bind fun v6=>bif (aF .gtr (List.length v6.Next:Int) 30) then (some (.inr (Sum.inr 8))) else (some (.inl (IntKind.i64.wrap (s1+1))))))) else (some (.inr (Sum.inl ())))
def uP (N:Nat) (x0:GPermitPlan):Option (Int) :=
  (dU (qf N x0) N 0).bind fun o11=>Sum.elim (fun l13=>(dU (qg N x0) N 0).bind fun o33=>Sum.elim (fun l35=>some 0) (fun r36=>some r36) o33) (fun r14=>some r14) o11
def zW (N:Nat) (x0:Int):Option (Bool) :=
  some ((aF .geq x0 0)&&(aF .leq x0 5))
def wB (N:Nat) (x0:GPermitPlan) (x1:Str) (s1:Int):Option (Int ⊕ (Unit ⊕ Int)) :=
  bif (aF .lss s1 (List.length x0.aj:Int)) then ((idx x0.aj s1).bind fun v2=>bif (zK .eql v2.Name x1) then (some (.inr (Sum.inr s1))) else (some (.inl (IntKind.i64.wrap (s1+1))))) else (some (.inr (Sum.inl ())))
def qH (N:Nat) (x0:GPermitPlan) (x1:Str):Option (Int) :=
  (dU (wB N x0 x1) N 0).bind fun o5=>Sum.elim (fun l7=>some (-1)) (fun r8=>some r8) o5
def ru (N:Nat) (x0:GPermitPlan) (v29:aH) (s30:Int):Option (Int ⊕ (Unit ⊕ Int)) :=
  bif (aF .lss s30 (List.length v29.Locks:Int)) then ((idx v29.Locks s30).bind fun v31=>(qH N x0 v31).bind fun v32=>bif (aF .lss v32 0) then (some (.inr (Sum.inr 6))) else ((idx x0.aj v32).bind fun v33=>bif ((aF .neq v33.Kind 5)||(aF .eql v29.Kind 5)) then (some (.inr (Sum.inr 3))) else (some (.inl (IntKind.i64.wrap (s30+1)))))) else (some (.inr (Sum.inl ())))
def rq (N:Nat) (x0:GPermitPlan) (U1:Int):Option (Int ⊕ (Unit ⊕ Int)) :=
  bif (aF .lss U1 (List.length x0.aj:Int)) then ((idx x0.aj U1).bind fun v29=>(dU (ru N x0 v29) N 0).bind fun o37=>Sum.elim (fun l39=>some (.inl (IntKind.i64.wrap (U1+1)))) (fun r40=>some (.inr (Sum.inr r40))) o37) else (some (.inr (Sum.inl ())))
def rf (N:Nat) (x0:GPermitPlan) (s12:Int):Option (Int ⊕ (Unit ⊕ Int)) :=
  bif (aF .lss s12 (List.length x0.aj:Int)) then ((idx x0.aj s12).bind fun v13=>(wV N v13.Name).bind fun v14=>bif (!v14) then (some (.inr (Sum.inr 4))) else ((qH N x0 v13.Name).bind fun v15=>bif (aF .lss v15 s12) then (some (.inr (Sum.inr 5))) else ((zW N v13.Kind).bind fun v16=>bif ((((!v16)||(aF .lss v13.From 0))||(aF .geq v13.From v13.To))||(aF .gtr v13.To 1000000)) then (some (.inr (Sum.inr 2))) else ((mD N x0 v13.Space).bind fun v17=>bif (aF .lss v17 0) then (some (.inr (Sum.inr 6))) else (bif (aF .gtr (List.length v13.Locks:Int) 10) then (some (.inr (Sum.inr 8))) else (some (.inl (IntKind.i64.wrap (s12+1))))))))) else (some (.inr (Sum.inl ())))
def wC (N:Nat) (x0:GPermitPlan) (s2:Int):Option (Int ⊕ (Unit ⊕ Int)) :=
  bif (aF .lss s2 (List.length x0.eG:Int)) then ((idx x0.eG s2).bind fun v3=>(zW N v3.A).bind fun v4=>(bif (!(!v4)) then (zW N v3.B) else some false).bind fun v5=>bif ((((!v4)||(!v5))||(aF .lss v3.Reach 0))||(aF .gtr v3.Reach 2)) then (some (.inr (Sum.inr 2))) else (some (.inl (IntKind.i64.wrap (s2+1))))) else (some (.inr (Sum.inl ())))
def uw (N:Nat) (x0:GPermitPlan):Option (Int) :=
  bif (((aF .gtr (List.length x0.bM:Int) 30)||(aF .gtr (List.length x0.eG:Int) 30))||(aF .gtr (List.length x0.aj:Int) 20)) then (some 8) else (bif ((aF .lss x0.fU 1)||(aF .gtr x0.fU 10000)) then (some 2) else ((uP N x0).bind fun v1=>bif (aF .neq v1 0) then (some v1) else ((dU (wC N x0) N 0).bind fun o8=>Sum.elim (fun l10=>(dU (rf N x0) N 0).bind fun o24=>Sum.elim (fun l26=>(dU (rq N x0) N 0).bind fun o43=>Sum.elim (fun l45=>some 0) (fun r46=>some r46) o43) (fun r27=>some r27) o24) (fun r11=>some r11) o8)))
def uh (N:Nat) (x0:GPermitPlan) (s4:(ai×Int)):Option ((ai×Int) ⊕ ai) :=
  bif (aF .lss s4.2 (List.length x0.aj:Int)) then ((idx x0.aj s4.2).bind fun v5=>(app s4.1.To [v5.To]).bind fun v6=>some (.inl (({ s4.1 with To:=v6 }:ai),(IntKind.i64.wrap (s4.2+1))))) else (some (.inr s4.1))
def CW (N:Nat) (x0:GPermitPlan):Option (ai) :=
  (mk 0 (List.length x0.aj:Int) (List.length x0.aj:Int)).bind fun v1=>(mk [] (List.length x0.aj:Int) (List.length x0.aj:Int)).bind fun v2=>(mk (⟨false,0,0,0⟩:dZ) (List.length x0.bM:Int) (List.length x0.bM:Int)).bind fun v3=>(dU (uh N x0) N ((⟨x0,0,v1,v2,[],v3,[]⟩:ai),0)).bind fun o8=>some o8
def lH (N:Nat) (x0:Int):Option (bf) :=
  some (⟨x0,[]⟩:bf)
def sK (N:Nat) (x0:(List Int)):Option ((List Int)) :=
  (app ([]:(List Int)) x0).bind fun v1=>some v1
def kZ (N:Nat) (x0:ai):Option (ai) :=
  (sK N x0.cO).bind fun v1=>(app ([]:(List Str)) (({ x0 with cO:=v1 }:ai).By)).bind fun v2=>(sK N (({ ({ x0 with cO:=v1 }:ai) with By:=v2 }:ai).To)).bind fun v3=>(app ([]:(List dZ)) (({ ({ ({ x0 with cO:=v1 }:ai) with By:=v2 }:ai) with To:=v3 }:ai).Tests)).bind fun v4=>(app ([]:(List fD)) (({ ({ ({ ({ x0 with cO:=v1 }:ai) with By:=v2 }:ai) with To:=v3 }:ai) with Tests:=v4 }:ai).oC)).bind fun v5=>some ({ ({ ({ ({ ({ x0 with cO:=v1 }:ai) with By:=v2 }:ai) with To:=v3 }:ai) with Tests:=v4 }:ai) with oC:=v5 }:ai)
def xU (N:Nat) (x0:dG) (x1:Str) (s1:Int):Option (Int ⊕ (Unit ⊕ Bool)) :=
  bif (aF .lss s1 (List.length x0.Next:Int)) then ((idx x0.Next s1).bind fun v2=>bif (zK .eql v2 x1) then (some (.inr (Sum.inr true))) else (some (.inl (IntKind.i64.wrap (s1+1))))) else (some (.inr (Sum.inl ())))
def yX (N:Nat) (x0:dG) (x1:Str):Option (Bool) :=
  (dU (xU N x0 x1) N 0).bind fun o5=>Sum.elim (fun l7=>some false) (fun r8=>some r8) o5
def mG (N:Nat) (x0:GPermitPlan) (x1:Str) (x2:Str):Option (Int) :=
  bif (zK .eql x1 x2) then (some 0) else ((mD N x0 x1).bind fun v1=>(idx x0.bM v1).bind fun v2=>(yX N v2 x2).bind fun v3=>(bif (!v3) then (mD N x0 x2) else some 0).bind fun v4=>(bif (!v3) then (idx x0.bM v4) else some (⟨[],false,[]⟩:dG)).bind fun v5=>(bif (!v3) then (yX N v5 x1) else some false).bind fun v6=>bif (v3||v6) then (some 1) else (some 2))
def qC (N:Nat) (x0:GPermitPlan) (v1:aH) (s3:((List Int)×Int)):Option (((List Int)×Int) ⊕ (List Int)) :=
  bif ((aF .lss s3.2 (List.length x0.bM:Int))&&(aF .eql v1.Kind 0)) then ((idx x0.bM s3.2).bind fun v4=>(mG N x0 v1.Space v4.Name).bind fun v5=>bif (aF .eql v5 1) then ((app s3.1 [s3.2]).bind fun v6=>some (.inl (v6,(IntKind.i64.wrap (s3.2+1))))) else (some (.inl (s3.1,(IntKind.i64.wrap (s3.2+1)))))) else (some (.inr s3.1))
def xW (N:Nat) (x0:GPermitPlan) (x1:Int):Option ((List Int)) :=
  (idx x0.aj x1).bind fun v1=>bif (((aF .neq v1.Kind 0)&&(aF .neq v1.Kind 1))&&(aF .neq v1.Kind 2)) then (some []) else ((mD N x0 v1.Space).bind fun v2=>(dU (qC N x0 v1) N ([v2],0)).bind fun o9=>some o9)
def sF (N:Nat) (x0:ai) (x1:Int) (x2:Bool):Option (Bool) :=
  (idx x0.P.bM x1).bind fun v1=>bif (!v1.dH) then (some true) else ((idx x0.Tests x1).bind fun v2=>bif (((((!v2.Done)||(aF .gtr (IntKind.i64.wrap (x0.Now - v2.At)) x0.P.fU))||(aF .lss v2.oz 195))||(aF .gtr v2.oz 235))||(aF .gtr v2.GY 50)) then (some false) else (some ((!x2)||(aF .leq v2.GY 10))))
def og (N:Nat) (x0:ai) (x1:Int) (v1:(List Int)) (s2:((List Str)×Int)):Option (((List Str)×Int) ⊕ (List Str)) :=
  bif (aF .lss s2.2 (List.length v1:Int)) then ((idx v1 s2.2).bind fun v3=>(idx x0.P.aj x1).bind fun v4=>(sF N x0 v3 (aF .eql v4.Kind 0)).bind fun v5=>bif (!v5) then ((idx v1 s2.2).bind fun v6=>(idx x0.P.bM v6).bind fun v7=>(app s2.1 [v7.Name]).bind fun v8=>some (.inl (v8,(IntKind.i64.wrap (s2.2+1))))) else (some (.inl (s2.1,(IntKind.i64.wrap (s2.2+1)))))) else (some (.inr s2.1))
def qi (N:Nat) (x0:ai) (x1:Int):Option ((List Str)) :=
  (xW N x0.P x1).bind fun v1=>(dU (og N x0 x1 v1) N ([],0)).bind fun o11=>some o11
def nR (N:Nat) (x0:ai) (v1:aH) (s2:((List Str)×Int)):Option (((List Str)×Int) ⊕ (List Str)) :=
  bif (aF .lss s2.2 (List.length v1.Locks:Int)) then ((idx v1.Locks s2.2).bind fun v3=>(qH N x0.P v3).bind fun v4=>(idx x0.cO v4).bind fun v5=>bif (aF .neq v5 2) then ((idx v1.Locks s2.2).bind fun v6=>(app s2.1 [v6]).bind fun v7=>some (.inl (v7,(IntKind.i64.wrap (s2.2+1))))) else (some (.inl (s2.1,(IntKind.i64.wrap (s2.2+1)))))) else (some (.inr s2.1))
def oZ (N:Nat) (x0:ai) (x1:Int):Option ((List Str)) :=
  (idx x0.P.aj x1).bind fun v1=>(dU (nR N x0 v1) N ([],0)).bind fun Tf=>some Tf
def mg (N:Nat) (v1:ai) (s16:(Bool×Int×(List Int))):Option ((Bool×Int×(List Int)) ⊕ (Bool×(List Int))) :=
  bif (aF .lss s16.2.1 (List.length s16.2.2:Int)) then ((idx s16.2.2 s16.2.1).bind fun v17=>(bif (aF .eql v17 2) then (qi N ({ v1 with cO:=s16.2.2 }:ai) s16.2.1) else some []).bind fun v18=>(bif (aF .eql v17 2) then (oZ N ({ v1 with cO:=s16.2.2 }:ai) s16.2.1) else some []).bind fun v19=>bif ((aF .eql v17 2)&&(aF .gtr (IntKind.i64.wrap ((List.length v18:Int)+(List.length v19:Int))) 0)) then ((idx s16.2.2 s16.2.1).bind fun v20=>some (.inl (true,(IntKind.i64.wrap (s16.2.1+1)),(List.set s16.2.2 (Int.toNat s16.2.1) 3)))) else (some (.inl (s16.1,(IntKind.i64.wrap (s16.2.1+1)),s16.2.2)))) else (some (.inr (s16.1,s16.2.2)))
def nG (N:Nat) (v1:ai) (s15:(Bool×(List Int))):Option ((Bool×(List Int)) ⊕ (List Int)) :=
  bif s15.1 then ((dU (mg N v1) N (false,0,s15.2)).bind fun o23=>some (.inl (o23.1,o23.2))) else (some (.inr s15.2))
def l9 (N:Nat) (v1:ai) (s7:(Int×(List Int))):Option ((Int×(List Int)) ⊕ (List Int)) :=
  bif (aF .lss s7.1 (List.length s7.2:Int)) then ((idx s7.2 s7.1).bind fun v8=>(bif (aF .leq v8 3) then (idx v1.To s7.1) else some 0).bind fun v9=>bif ((aF .leq v8 3)&&(aF .leq v9 v1.Now)) then ((idx s7.2 s7.1).bind fun v10=>some (.inl ((IntKind.i64.wrap (s7.1+1)),(List.set s7.2 (Int.toNat s7.1) 6)))) else (some (.inl ((IntKind.i64.wrap (s7.1+1)),s7.2)))) else (some (.inr s7.2))
def oN (N:Nat) (x0:ai):Option (ai) :=
  (kZ N x0).bind fun v1=>(dU (l9 N v1) N (0,v1.cO)).bind fun U3=>(dU (nG N v1) N (true,U3)).bind fun P8=>some ({ v1 with cO:=P8 }:ai)
def qZ (N:Nat) (x0:ai) (x1:Str) (s1:Int):Option (Int ⊕ (Unit ⊕ Int)) :=
  bif (aF .lss s1 (List.length x0.oC:Int)) then ((idx x0.oC s1).bind fun v2=>bif (zK .eql v2.Name x1) then (some (.inr (Sum.inr s1))) else (some (.inl (IntKind.i64.wrap (s1+1))))) else (some (.inr (Sum.inl ())))
def qY (N:Nat) (x0:ai) (x1:Str):Option (Int) :=
  (dU (qZ N x0 x1) N 0).bind fun o5=>Sum.elim (fun l7=>some (-1)) (fun r8=>some r8) o5
def nI (N:Nat) (x0:ai) (x1:Str) (x2:Int) (s1:Int):Option (Int ⊕ (Unit ⊕ Bool)) :=
  bif (aF .lss s1 (List.length x0.cO:Int)) then ((idx x0.P.aj s1).bind fun v2=>(bif (aF .neq s1 x2) then (idx x0.cO s1) else some 0).bind fun v3=>bif ((((aF .neq s1 x2)&&(aF .eql v3 2))&&(aF .eql v2.Kind 1))&&(zK .eql v2.Space x1)) then (some (.inr (Sum.inr true))) else (some (.inl (IntKind.i64.wrap (s1+1))))) else (some (.inr (Sum.inl ())))
def mr (N:Nat) (x0:ai) (x1:Str) (x2:Int):Option (Bool) :=
  (dU (nI N x0 x1 x2) N 0).bind fun o6=>Sum.elim (fun l8=>some false) (fun r9=>some r9) o6
def lM (N:Nat) (x0:ai) (x1:GEvent) (s29:Int):Option (Int ⊕ Int) :=
  (bif (aF .lss s29 (List.length x0.oC:Int)) then (idx x0.oC s29) else some (⟨[],[]⟩:fD)).bind fun v30=>bif ((aF .lss s29 (List.length x0.oC:Int))&&(zK .lss v30.Name x1.Person)) then (some (.inl (IntKind.i64.wrap (s29+1)))) else (some (.inr s29))
def lK (N:Nat) (x0:ai) (x1:GEvent) (s20:((List Str)×Int)):Option (((List Str)×Int) ⊕ (List Str)) :=
  bif (aF .lss s20.2 (List.length x0.cO:Int)) then ((idx x0.P.aj s20.2).bind fun v21=>(idx x0.cO s20.2).bind fun v22=>(bif ((aF .eql v22 2)&&(aF .eql v21.Kind 3)) then (mG N x0.P v21.Space x1.Space) else some 0).bind fun v23=>bif (((aF .eql v22 2)&&(aF .eql v21.Kind 3))&&(aF .leq v23 1)) then ((app s20.1 [v21.Name]).bind fun v24=>some (.inl (v24,(IntKind.i64.wrap (s20.2+1))))) else (some (.inl (s20.1,(IntKind.i64.wrap (s20.2+1)))))) else (some (.inr s20.1))
def jm (N:Nat) (x0:ai) (x1:GEvent) (s44:(Int×(List Int))):Option ((Int×(List Int)) ⊕ (List Int)) :=
  bif (aF .lss s44.1 (List.length s44.2:Int)) then ((idx x0.P.aj s44.1).bind fun v45=>(idx s44.2 s44.1).bind fun v46=>(bif ((aF .eql v46 2)&&(aF .neq v45.Kind 5)) then (mG N x0.P v45.Space x1.Space) else some 0).bind fun v47=>bif (((aF .eql v46 2)&&(aF .neq v45.Kind 5))&&(aF .leq v47 1)) then ((idx s44.2 s44.1).bind fun v48=>some (.inl ((IntKind.i64.wrap (s44.1+1)),(List.set s44.2 (Int.toNat s44.1) 3)))) else (some (.inl ((IntKind.i64.wrap (s44.1+1)),s44.2)))) else (some (.inr s44.2))
def iP (N:Nat) (x0:ai) (x1:GEvent):Option (ai×bf) :=
  (bif ((aF .eql x1.Op 8)||(aF .eql x1.Op 9)) then (wV N x1.Person) else some false).bind fun v1=>bif (((aF .eql x1.Op 8)||(aF .eql x1.Op 9))&&(!v1)) then ((lH N 4).bind fun v2=>some (x0,v2)) else (bif (aF .eql x1.Op 9) then ((qY N x0 x1.Person).bind fun v3=>bif (aF .lss v3 0) then ((lH N 6).bind fun v4=>some (x0,v4)) else ((NF x0.oC 0 v3).bind fun v5=>(app ([]:(List fD)) v5).bind fun v6=>(NF x0.oC (IntKind.i64.wrap (v3+1)) (List.length x0.oC:Int)).bind fun v7=>(app v6 v7).bind fun v8=>some (({ ({ x0 with oC:=v8 }:ai) with cO:=x0.cO,By:=x0.By,To:=x0.To,Tests:=x0.Tests }:ai),(⟨0,[]⟩:bf)))) else ((mD N x0.P x1.Space).bind fun v10=>bif (aF .lss v10 0) then ((lH N 6).bind fun v11=>some (x0,v11)) else (bif (aF .eql x1.Op 7) then (bif ((((aF .lss x1.oz 0)||(aF .gtr x1.oz 1000))||(aF .lss x1.GY 0))||(aF .gtr x1.GY 1000)) then ((lH N 2).bind fun v12=>some (x0,v12)) else ((idx x0.Tests v10).bind fun v13=>some (({ x0 with Tests:=(List.set x0.Tests (Int.toNat v10) (⟨true,x0.Now,x1.oz,x1.GY⟩:dZ)) }:ai),(⟨0,[]⟩:bf)))) else (bif (aF .eql x1.Op 8) then ((qY N x0 x1.Person).bind fun v15=>bif (aF .geq v15 0) then ((lH N 18).bind fun v16=>some (x0,v16)) else ((idx x0.P.bM v10).bind fun v17=>(bif v17.dH then (mr N x0 x1.Space (-1)) else some false).bind fun v18=>bif (v17.dH&&(!v18)) then ((lH N 21).bind fun v19=>some (x0,v19)) else ((dU (lK N x0 x1) N ([],0)).bind fun P8=>bif (aF .gtr (List.length P8:Int) 0) then (some (x0,(⟨17,P8⟩:bf))) else ((dU (lM N x0 x1) N 0).bind fun o32=>(NF x0.oC 0 o32).bind fun v34=>(app ([]:(List fD)) v34).bind fun v35=>(app v35 [(⟨x1.Person,x1.Space⟩:fD)]).bind fun v36=>(NF x0.oC o32 (List.length x0.oC:Int)).bind fun v37=>(app v36 v37).bind fun v38=>some (({ ({ x0 with oC:=v38 }:ai) with cO:=x0.cO,By:=x0.By,To:=x0.To,Tests:=x0.Tests }:ai),(⟨0,[]⟩:bf)))))) else (bif (aF .eql x1.Op 10) then ((dU (jm N x0 x1) N (0,x0.cO)).bind fun o51=>some (({ x0 with cO:=o51 }:ai),(⟨0,[]⟩:bf))) else (some (x0,(⟨0,[]⟩:bf))))))))
def yN (N:Nat) (x0:Int) (x1:Int):Option (Bool) :=
  bif (aF .eql x0 1) then (some (aF .eql x1 0)) else (bif (aF .eql x0 2) then (some (aF .eql x1 1)) else (bif (aF .eql x0 3) then (some (aF .eql x1 2)) else (bif (aF .eql x0 4) then (some (aF .eql x1 3)) else (bif (aF .eql x0 5) then (some ((aF .eql x1 2)||(aF .eql x1 3))) else (bif (aF .eql x0 6) then (some ((aF .eql x1 0)||(aF .eql x1 1))) else (some (((aF .eql x1 1)||(aF .eql x1 2))||(aF .eql x1 3))))))))
def uO (N:Nat) (x0:GPermitPlan) (v1:aH) (v2:aH) (v3:Int) (s4:Int):Option (Int ⊕ (Unit ⊕ Bool)) :=
  bif (aF .lss s4 (List.length x0.eG:Int)) then ((idx x0.eG s4).bind fun v5=>bif ((((aF .eql v5.A v1.Kind)&&(aF .eql v5.B v2.Kind))||((aF .eql v5.A v2.Kind)&&(aF .eql v5.B v1.Kind)))&&(aF .leq v3 v5.Reach)) then (some (.inr (Sum.inr true))) else (some (.inl (IntKind.i64.wrap (s4+1))))) else (some (.inr (Sum.inl ())))
def vz (N:Nat) (x0:GPermitPlan) (x1:Int) (x2:Int):Option (Bool) :=
  bif (aF .eql x1 x2) then (some false) else ((idx x0.aj x1).bind fun v1=>(idx x0.aj x2).bind fun v2=>(mG N x0 v1.Space v2.Space).bind fun v3=>(dU (uO N x0 v1 v2 v3) N 0).bind fun o8=>Sum.elim (fun l10=>some false) (fun r11=>some r11) o8)
def oI (N:Nat) (x0:ai) (x1:Str) (x2:Int) (s1:((List Str)×Int)):Option (((List Str)×Int) ⊕ (List Str)) :=
  bif (aF .lss s1.2 (List.length x0.oC:Int)) then ((idx x0.oC s1.2).bind fun v2=>(mG N x0.P v2.Space x1).bind fun v3=>bif (aF .leq v3 x2) then ((idx x0.oC s1.2).bind fun v4=>(app s1.1 [v4.Name]).bind fun v5=>some (.inl (v5,(IntKind.i64.wrap (s1.2+1))))) else (some (.inl (s1.1,(IntKind.i64.wrap (s1.2+1)))))) else (some (.inr s1.1))
def nP (N:Nat) (x0:ai) (x1:Str) (x2:Int):Option ((List Str)) :=
  (dU (oI N x0 x1 x2) N ([],0)).bind fun o8=>some o8
def mY (N:Nat) (x0:ai) (x1:Int) (s11:((List Str)×Int)):Option (((List Str)×Int) ⊕ (List Str)) :=
  bif (aF .lss s11.2 (List.length x0.cO:Int)) then ((idx x0.cO s11.2).bind fun v12=>(bif (aF .eql v12 2) then (vz N x0.P x1 s11.2) else some false).bind fun v13=>bif ((aF .eql v12 2)&&v13) then ((idx x0.P.aj s11.2).bind fun v14=>(app s11.1 [v14.Name]).bind fun v15=>some (.inl (v15,(IntKind.i64.wrap (s11.2+1))))) else (some (.inl (s11.1,(IntKind.i64.wrap (s11.2+1)))))) else (some (.inr s11.1))
def qc (N:Nat) (x0:ai) (x1:Int):Option ((List bV)) :=
  (idx x0.P.aj x1).bind fun v1=>((bif (aF .lss x0.Now v1.From) then ((app [] [(⟨2,[]⟩:bV)]).bind fun v2=>some v2) else (some [])):Option (List bV)).bind fun o4=>(((oZ N x0 x1).bind fun v6=>bif (aF .gtr (List.length v6:Int) 0) then ((app o4 [(⟨18,v6⟩:bV)]).bind fun v7=>some v7) else (some o4)):Option (List bV)).bind fun o9=>(dU (mY N x0 x1) N ([],0)).bind fun o18=>((bif (aF .gtr (List.length o18:Int) 0) then ((app o9 [(⟨20,o18⟩:bV)]).bind fun v20=>some v20) else (some o9)):Option (List bV)).bind fun o22=>(((qi N x0 x1).bind fun v24=>bif (aF .gtr (List.length v24:Int) 0) then ((app o22 [(⟨21,v24⟩:bV)]).bind fun v25=>some v25) else (some o22)):Option (List bV)).bind fun P8=>(nP N x0 v1.Space 1).bind fun v29=>bif ((aF .eql v1.Kind 3)&&(aF .gtr (List.length v29:Int) 0)) then ((app P8 [(⟨17,v29⟩:bV)]).bind fun v30=>some v30) else (some P8)
def lX (N:Nat) (v1:ai) (l17:(ai×bf×(List Int)×(List Str)×(List Int)×(List dZ))) (v26:aH) (SS:((List Str)×Int)) (YF:((List Str)×Int)):Option (((List Str)×Int) ⊕ (List Str)) :=
  (idx v1.P.aj SS.2).bind fun v43=>bif (aF .lss YF.2 (List.length v43.Locks:Int)) then ((idx l17.2.2.1 SS.2).bind fun v44=>(bif (aF .eql v44 2) then (idx v1.P.aj SS.2) else some (⟨[],0,[],0,0,[]⟩:aH)).bind fun v45=>(bif (aF .eql v44 2) then (idx v45.Locks YF.2) else some []).bind fun v46=>bif ((aF .eql v44 2)&&(zK .eql v46 v26.Name)) then ((idx v1.P.aj SS.2).bind fun v47=>(app YF.1 [v47.Name]).bind fun v48=>some (.inr v48)) else (some (.inl (YF.1,(IntKind.i64.wrap (YF.2+1)))))) else (some (.inr YF.1))
def ni (N:Nat) (v1:ai) (l17:(ai×bf×(List Int)×(List Str)×(List Int)×(List dZ))) (v26:aH) (SS:((List Str)×Int)):Option (((List Str)×Int) ⊕ (List Str)) :=
  bif (aF .lss SS.2 (List.length l17.2.2.1:Int)) then ((dU (lX N v1 l17 v26 SS) N (SS.1,0)).bind fun o51=>some (.inl (o51,(IntKind.i64.wrap (SS.2+1))))) else (some (.inr SS.1))
def uN (N:Nat) (x0:ai) (x1:GEvent):Option (ai×bf) :=
  (kZ N x0).bind fun v1=>((bif (aF .eql x1.Op 0) then (some (Sum.inr (v1,(⟨0,[]⟩:bf)))) else (((bif (aF .eql x1.Op 7) then (some (aF .eql x1.Op 7)) else (bif (aF .eql x1.Op 8) then (some (aF .eql x1.Op 8)) else (bif (aF .eql x1.Op 9) then (some (aF .eql x1.Op 9)) else (some (aF .eql x1.Op 10))))):Option Bool).bind fun Tf=>bif Tf then ((iP N v1 x1).bind fun v12=>some (Sum.inr (v12.1,v12.2))) else (some (Sum.inl ((⟨(⟨[],[],[],0⟩:GPermitPlan),0,[],[],[],[],[]⟩:ai),(⟨0,[]⟩:bf),v1.cO,v1.By,v1.To,v1.Tests))))):Option ((ai×bf×(List Int)×(List Str)×(List Int)×(List dZ)) ⊕ (ai×bf))).bind fun Om=>Sum.elim (fun l17=>(qH N v1.P x1.Name).bind fun v19=>bif (aF .lss v19 0) then ((lH N 6).bind fun v20=>some (({ v1 with cO:=l17.2.2.1,By:=l17.2.2.2.1,To:=l17.2.2.2.2.1,Tests:=l17.2.2.2.2.2 }:ai),v20)) else ((idx l17.2.2.1 v19).bind fun v21=>(yN N x1.Op v21).bind fun v22=>bif (!v22) then ((lH N 18).bind fun v23=>some (({ v1 with cO:=l17.2.2.1,By:=l17.2.2.2.1,To:=l17.2.2.2.2.1,Tests:=l17.2.2.2.2.2 }:ai),v23)) else ((bif ((((aF .eql x1.Op 1)||(aF .eql x1.Op 2))||(aF .eql x1.Op 4))||(aF .eql x1.Op 11)) then (wV N x1.Person) else some false).bind fun v24=>bif (((((aF .eql x1.Op 1)||(aF .eql x1.Op 2))||(aF .eql x1.Op 4))||(aF .eql x1.Op 11))&&(!v24)) then ((lH N 4).bind fun v25=>some (({ v1 with cO:=l17.2.2.1,By:=l17.2.2.2.1,To:=l17.2.2.2.2.1,Tests:=l17.2.2.2.2.2 }:ai),v25)) else ((idx v1.P.aj v19).bind fun v26=>bif (aF .eql x1.Op 1) then ((idx l17.2.2.1 v19).bind fun v27=>(idx l17.2.2.2.1 v19).bind fun v28=>some (({ v1 with cO:=(List.set l17.2.2.1 (Int.toNat v19) 1),By:=(List.set l17.2.2.2.1 (Int.toNat v19) x1.Person),To:=l17.2.2.2.2.1,Tests:=l17.2.2.2.2.2 }:ai),(⟨0,[]⟩:bf))) else (((bif (aF .eql x1.Op 2) then (some (aF .eql x1.Op 2)) else (some (aF .eql x1.Op 4))):Option Bool).bind fun o30=>bif o30 then ((idx l17.2.2.2.1 v19).bind fun v32=>bif (zK .eql x1.Person v32) then ((lH N 26).bind fun v33=>some (({ v1 with cO:=l17.2.2.1,By:=l17.2.2.2.1,To:=l17.2.2.2.2.1,Tests:=l17.2.2.2.2.2 }:ai),v33)) else ((qc N ({ v1 with cO:=l17.2.2.1,By:=l17.2.2.2.1,To:=l17.2.2.2.2.1,Tests:=l17.2.2.2.2.2 }:ai) v19).bind fun v34=>bif (aF .gtr (List.length v34:Int) 0) then ((idx v34 0).bind fun v35=>(idx v34 0).bind fun v36=>some (({ v1 with cO:=l17.2.2.1,By:=l17.2.2.2.1,To:=l17.2.2.2.2.1,Tests:=l17.2.2.2.2.2 }:ai),(⟨v35.Err,v36.Names⟩:bf))) else ((idx l17.2.2.1 v19).bind fun v37=>some (({ v1 with cO:=(List.set l17.2.2.1 (Int.toNat v19) 2),By:=l17.2.2.2.1,To:=l17.2.2.2.2.1,Tests:=l17.2.2.2.2.2 }:ai),(⟨0,[]⟩:bf))))) else (bif (aF .eql x1.Op 3) then ((idx l17.2.2.1 v19).bind fun v40=>some (({ v1 with cO:=(List.set l17.2.2.1 (Int.toNat v19) 3),By:=l17.2.2.2.1,To:=l17.2.2.2.2.1,Tests:=l17.2.2.2.2.2 }:ai),(⟨0,[]⟩:bf))) else (bif (aF .eql x1.Op 5) then ((dU (ni N v1 l17 v26) N ([],0)).bind fun o55=>bif ((aF .eql v26.Kind 5)&&(aF .gtr (List.length o55:Int) 0)) then (some (({ v1 with cO:=l17.2.2.1,By:=l17.2.2.2.1,To:=l17.2.2.2.2.1,Tests:=l17.2.2.2.2.2 }:ai),(⟨20,o55⟩:bf))) else ((nP N ({ v1 with cO:=l17.2.2.1,By:=l17.2.2.2.1,To:=l17.2.2.2.2.1,Tests:=l17.2.2.2.2.2 }:ai) v26.Space 0).bind fun v57=>(bif (aF .eql v26.Kind 1) then (idx l17.2.2.1 v19) else some 0).bind fun v58=>(bif ((aF .eql v26.Kind 1)&&(aF .eql v58 2)) then (mD N v1.P v26.Space) else some 0).bind fun v59=>(bif ((aF .eql v26.Kind 1)&&(aF .eql v58 2)) then (idx v1.P.bM v59) else some (⟨[],false,[]⟩:dG)).bind fun v60=>(bif (((aF .eql v26.Kind 1)&&(aF .eql v58 2))&&v60.dH) then (mr N ({ v1 with cO:=l17.2.2.1,By:=l17.2.2.2.1,To:=l17.2.2.2.2.1,Tests:=l17.2.2.2.2.2 }:ai) v26.Space v19) else some false).bind fun v61=>bif (((((aF .eql v26.Kind 1)&&(aF .eql v58 2))&&v60.dH)&&(!v61))&&(aF .gtr (List.length v57:Int) 0)) then (some (({ v1 with cO:=l17.2.2.1,By:=l17.2.2.2.1,To:=l17.2.2.2.2.1,Tests:=l17.2.2.2.2.2 }:ai),(⟨21,v57⟩:bf))) else ((idx l17.2.2.1 v19).bind fun v62=>some (({ v1 with cO:=(List.set l17.2.2.1 (Int.toNat v19) 4),By:=l17.2.2.2.1,To:=l17.2.2.2.2.1,Tests:=l17.2.2.2.2.2 }:ai),(⟨0,[]⟩:bf))))) else (bif (aF .eql x1.Op 6) then ((idx l17.2.2.1 v19).bind fun v66=>some (({ v1 with cO:=(List.set l17.2.2.1 (Int.toNat v19) 5),By:=l17.2.2.2.1,To:=l17.2.2.2.2.1,Tests:=l17.2.2.2.2.2 }:ai),(⟨0,[]⟩:bf))) else (bif (aF .eql x1.Op 11) then ((idx l17.2.2.2.2.1 v19).bind fun v67=>bif ((aF .leq x1.To v67)||(aF .gtr x1.To 1000000)) then ((lH N 2).bind fun v68=>some (({ v1 with cO:=l17.2.2.1,By:=l17.2.2.2.1,To:=l17.2.2.2.2.1,Tests:=l17.2.2.2.2.2 }:ai),v68)) else ((idx l17.2.2.2.2.1 v19).bind fun v69=>some (({ v1 with cO:=l17.2.2.1,By:=l17.2.2.2.1,To:=(List.set l17.2.2.2.2.1 (Int.toNat v19) x1.To),Tests:=l17.2.2.2.2.2 }:ai),(⟨0,[]⟩:bf)))) else (some (({ v1 with cO:=l17.2.2.1,By:=l17.2.2.2.1,To:=l17.2.2.2.2.1,Tests:=l17.2.2.2.2.2 }:ai),(⟨0,[]⟩:bf)))))))))))) (fun U2=>some (U2.1,U2.2)) Om
def wo (N:Nat) (x0:ai) (x1:GEvent):Option (ai×bf) :=
  bif ((((aF .lss x1.Op 0)||(aF .gtr x1.Op 11))||(aF .lss x1.At 0))||(aF .gtr x1.At 1000000)) then ((lH N 2).bind fun v1=>some (x0,v1)) else (bif (aF .lss x1.At x0.Now) then ((lH N 10).bind fun v2=>some (x0,v2)) else ((kZ N x0).bind fun v3=>(oN N ({ v3 with Now:=x1.At }:ai)).bind fun v4=>(uN N v4 x1).bind fun v5=>bif (aF .neq v5.2.E 0) then (some (v4,v5.2)) else ((oN N v5.1).bind fun v6=>some (v6,v5.2))))
def qG (N:Nat) (g0:af) (aS:(List (Str×ah))) (aJ:(List (Str×au))) (aO:(List (Str×Str))):Option (List GEvent) :=
  (jY N g0.done).bind fun v1=>some v1
def sV (N:Nat) (g0:af) (aS:(List (Str×ah))) (aJ:(List (Str×au))) (aO:(List (Str×Str))):Option Int :=
  some g0.now
def ou (N:Nat) (x0:aH):Option (Bool) :=
  some true
def rV (N:Nat) (g0:af) (aS:(List (Str×ah))) (aJ:(List (Str×au))) (aO:(List (Str×Str))):Option (List Str) :=
  (iI N g0 aS aJ aO (fun y0=>ou N y0)).bind fun v1=>some v1
def pY (N:Nat) (x0:ai) (s1:((List Str)×Int)):Option (((List Str)×Int) ⊕ (List Str)) :=
  bif (aF .lss s1.2 (List.length x0.cO:Int)) then ((idx x0.cO s1.2).bind fun v2=>bif (aF .eql v2 2) then ((idx x0.P.aj s1.2).bind fun v3=>(app s1.1 [v3.Name]).bind fun v4=>some (.inl (v4,(IntKind.i64.wrap (s1.2+1))))) else (some (.inl (s1.1,(IntKind.i64.wrap (s1.2+1)))))) else (some (.inr s1.1))
def uJ (N:Nat) (x0:ai):Option ((List Str)) :=
  (dU (pY N x0) N ([],0)).bind fun o7=>some o7
def oH (N:Nat) (x1:(List GEvent)) (Lu:(ai×Int×Int)) (v23:(List GEvent)) (U1:Int):Option (Int ⊕ (Unit ⊕ Bool)) :=
  bif (aF .lss U1 Lu.2.1) then ((idx v23 U1).bind fun v29=>(idx x1 U1).bind fun v30=>bif (!(GEvent.eqb v29 v30)) then (some (.inr (Sum.inr false))) else (some (.inl (IntKind.i64.wrap (U1+1))))) else (some (.inr (Sum.inl ())))
def ig (N:Nat) (x1:(List GEvent)) (s16:(ai×Int×Int×Int)):Option ((ai×Int×Int×Int) ⊕ (ai×Int×Int)) :=
  bif ((aF .lss s16.2.2.2 (List.length x1:Int))&&(aF .eql s16.2.2.1 0)) then ((idx x1 s16.2.2.2).bind fun v17=>(wo N s16.1 v17).bind fun v18=>bif (aF .eql v18.2.E 0) then (some (.inl (v18.1,(IntKind.i64.wrap (s16.2.1+1)),v18.2.E,(IntKind.i64.wrap (s16.2.2.2+1))))) else (some (.inl (s16.1,s16.2.1,v18.2.E,(IntKind.i64.wrap (s16.2.2.2+1)))))) else (some (.inr (s16.1,s16.2.1,s16.2.2.1)))
def vN (N:Nat) (x0:GPermitPlan) (x1:(List GEvent)):Option (Bool) :=
  (y7 N x0).bind fun v1=>bif (v1||(aF .gtr (List.length x1:Int) 40)) then ((wX N).bind fun v2=>some v2) else ((rZ N x0 x1).bind fun v3=>Cc v3 (fun Ig=>(uw N x0).bind fun v4=>bif (aF .neq v4 0) then ((bif ((true&&(aF .eql Ig.1 0))&&(aF .eql Ig.2 v4)) then (wX N) else some false).bind fun v5=>some (((true&&(aF .eql Ig.1 0))&&(aF .eql Ig.2 v4))&&v5)) else (some false)) (fun lG Ig=>(uw N x0).bind fun v13=>bif (aF .neq v13 0) then ((bif ((false&&(aF .eql Ig.1 0))&&(aF .eql Ig.2 v13)) then (wX N) else some false).bind fun v14=>some (((false&&(aF .eql Ig.1 0))&&(aF .eql Ig.2 v13))&&v14)) else ((CW N x0).bind fun v15=>(dU (ig N x1) N (v15,0,0,0)).bind fun Lu=>(qG N lG.1 lG.2.1 lG.2.2.1 lG.2.2.2).bind fun v23=>(bif (!(((aF .neq Ig.1 Lu.2.1)||(aF .neq Ig.2 Lu.2.2))||(aF .neq (List.length v23:Int) Lu.2.1))) then (sV N lG.1 lG.2.1 lG.2.2.1 lG.2.2.2) else some 0).bind fun v24=>(bif (!((((aF .neq Ig.1 Lu.2.1)||(aF .neq Ig.2 Lu.2.2))||(aF .neq (List.length v23:Int) Lu.2.1))||(aF .neq v24 Lu.1.Now))) then (rV N lG.1 lG.2.1 lG.2.2.1 lG.2.2.2) else some []).bind fun v25=>(bif (!((((aF .neq Ig.1 Lu.2.1)||(aF .neq Ig.2 Lu.2.2))||(aF .neq (List.length v23:Int) Lu.2.1))||(aF .neq v24 Lu.1.Now))) then (uJ N Lu.1) else some []).bind fun v26=>(bif (!((((aF .neq Ig.1 Lu.2.1)||(aF .neq Ig.2 Lu.2.2))||(aF .neq (List.length v23:Int) Lu.2.1))||(aF .neq v24 Lu.1.Now))) then (yG N v25 v26) else some false).bind fun v27=>bif (((((aF .neq Ig.1 Lu.2.1)||(aF .neq Ig.2 Lu.2.2))||(aF .neq (List.length v23:Int) Lu.2.1))||(aF .neq v24 Lu.1.Now))||(!v27)) then (some false) else ((dU (oH N x1 Lu v23) N 0).bind fun o33=>Sum.elim (fun l35=>(wX N).bind fun v37=>some v37) (fun r36=>some r36) o33))))
end
end Go.KB
