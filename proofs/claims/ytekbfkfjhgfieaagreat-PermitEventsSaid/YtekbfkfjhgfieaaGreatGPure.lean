/- The functions as plain Lean functions. Printed by a program. No condition. -/
import Derived.Test.YtekbfkfjhgfieaaGreatGTypes
import Derived.Test.YtekbfkfjhgfieaaGreatKSos
namespace Go.KB
set_option linter.unusedVariables false
noncomputable section
def qK (N:Nat) (x0:GPermitPlan) (s10:Int):Option (Int ⊕ (Unit ⊕ Bool)) :=
  bif (aF .lss s10 (List.length x0.aj:Int)) then ((idx x0.aj s10).bind fun v11=>(bif (!(aF .gtr (List.length v11.Locks:Int) 20)) then (idx x0.aj s10) else some (⟨[],0,[],0,0,[]⟩:aG)).bind fun v12=>bif ((aF .gtr (List.length v11.Locks:Int) 20)||(aF .gtr (List.length v12.Name:Int) 40)) then (some (.inr (Sum.inr true))) else (some (.inl (IntKind.i64.wrap (s10+1))))) else (some (.inr (Sum.inl ())))
def qJ (N:Nat) (x0:GPermitPlan) (s1:Int):Option (Int ⊕ (Unit ⊕ Bool)) :=
  bif (aF .lss s1 (List.length x0.bG:Int)) then ((idx x0.bG s1).bind fun v2=>(bif (!(aF .gtr (List.length v2.Next:Int) 40)) then (idx x0.bG s1) else some (⟨[],false,[]⟩:dn)).bind fun v3=>bif ((aF .gtr (List.length v2.Next:Int) 40)||(aF .gtr (List.length v3.Name:Int) 40)) then (some (.inr (Sum.inr true))) else (some (.inl (IntKind.i64.wrap (s1+1))))) else (some (.inr (Sum.inl ())))
def yu (N:Nat) (x0:GPermitPlan):Option (Bool) :=
  bif (((aF .gtr (List.length x0.bG:Int) 40)||(aF .gtr (List.length x0.dR:Int) 40))||(aF .gtr (List.length x0.aj:Int) 30)) then (some true) else ((dU (qJ N x0) N 0).bind fun o6=>Sum.elim (fun l8=>(dU (qK N x0) N 0).bind fun QU=>Sum.elim (fun l17=>some false) (fun VS=>some VS) QU) (fun r9=>some r9) o6)
def AU (N:Nat):Option ((List bT)) :=
  some [(⟨0,2,1⟩:bT),(⟨3,0,1⟩:bT),(⟨3,1,1⟩:bT),(⟨3,2,1⟩:bT),(⟨3,3,1⟩:bT),(⟨4,4,0⟩:bT)]
def BR (N:Nat):Option (GPermitPlan) :=
  (AU N).bind fun v1=>some (⟨[(⟨([100,101,99,107]:Str),false,[([116,97,110,107]:Str)]⟩:dn),(⟨([116,97,110,107]:Str),true,[]⟩:dn),(⟨([104,111,108,100]:Str),true,[([116,97,110,107]:Str)]⟩:dn)],v1,[(⟨([119,101,108,100]:Str),0,([100,101,99,107]:Str),0,600,[]⟩:aG),(⟨([103,111]:Str),1,([116,97,110,107]:Str),0,600,[([112,117,109,112]:Str)]⟩:aG),(⟨([112,97,105,110,116]:Str),2,([104,111,108,100]:Str),0,600,[]⟩:aG),(⟨([112,117,109,112]:Str),5,([116,97,110,107]:Str),0,600,[]⟩:aG)],60⟩:GPermitPlan)
def xY (N:Nat) (x0:Int):Option (Bool) :=
  some (((aF .geq x0 97)&&(aF .leq x0 122))||((aF .geq x0 65)&&(aF .leq x0 90)))
def su (N:Nat) (x0:Str) (s3:Int):Option (Int ⊕ (Unit ⊕ Bool)) :=
  bif (aF .lss s3 (List.length x0:Int)) then ((idx x0 s3).bind fun v4=>(xY N ((UInt8.toNat v4:Nat):Int)).bind fun v5=>bif (((!v5)&&(aF .neq ((UInt8.toNat v4:Nat):Int) 45))&&((aF .lss ((UInt8.toNat v4:Nat):Int) 48)||(aF .gtr ((UInt8.toNat v4:Nat):Int) 57))) then (some (.inr (Sum.inr false))) else (some (.inl (IntKind.i64.wrap (s3+1))))) else (some (.inr (Sum.inl ())))
def qh (N:Nat) (x0:Str):Option (Bool) :=
  (bif (!((aF .lss (List.length x0:Int) 1)||(aF .gtr (List.length x0:Int) 12))) then (idx x0 0) else some 0).bind fun v1=>(bif (!((aF .lss (List.length x0:Int) 1)||(aF .gtr (List.length x0:Int) 12))) then (xY N ((UInt8.toNat v1:Nat):Int)) else some false).bind fun v2=>bif (((aF .lss (List.length x0:Int) 1)||(aF .gtr (List.length x0:Int) 12))||(!v2)) then (some false) else ((dU (su N x0) N 0).bind fun o8=>Sum.elim (fun l10=>some true) (fun r11=>some r11) o8)
def oJ (N:Nat) (l10:(List (Str×Bool))) (v13:dn) (s14:Int):Option (Int ⊕ (Unit ⊕ Int)) :=
  bif (aF .lss s14 (List.length v13.Next:Int)) then ((idx v13.Next s14).bind fun v15=>bif (!(je false l10 v15)) then (some (.inr (Sum.inr 6))) else (bif (yK .eql v15 v13.Name) then (some (.inr (Sum.inr 3))) else (some (.inl (IntKind.i64.wrap (s14+1)))))) else (some (.inr (Sum.inl ())))
def oI (N:Nat) (x0:GPermitPlan) (l10:(List (Str×Bool))) (s12:Int):Option (Int ⊕ (Unit ⊕ Int)) :=
  bif (aF .lss s12 (List.length x0.bG:Int)) then ((idx x0.bG s12).bind fun v13=>(dU (oJ N l10 v13) N 0).bind fun XK=>Sum.elim (fun l21=>some (.inl (IntKind.i64.wrap (s12+1)))) (fun r22=>some (.inr (Sum.inr r22))) XK) else (some (.inr (Sum.inl ())))
def oH (N:Nat) (x0:GPermitPlan) (s1:((List (Str×Bool))×Int)):Option (((List (Str×Bool))×Int) ⊕ ((List (Str×Bool)) ⊕ Int)) :=
  bif (aF .lss s1.2 (List.length x0.bG:Int)) then ((idx x0.bG s1.2).bind fun v2=>(qh N v2.Name).bind fun v3=>bif (!v3) then (some (.inr (Sum.inr 4))) else (bif (je false s1.1 v2.Name) then (some (.inr (Sum.inr 5))) else (bif (aF .gtr (List.length v2.Next:Int) 30) then (some (.inr (Sum.inr 8))) else (some (.inl ((rE s1.1 v2.Name true),(IntKind.i64.wrap (s1.2+1)))))))) else (some (.inr (Sum.inl s1.1)))
def sK (N:Nat) (x0:GPermitPlan):Option (Int) :=
  (dU (oH N x0) N (([]:(List (Str×Bool))),0)).bind fun o8=>Sum.elim (fun l10=>(dU (oI N x0 l10) N 0).bind fun Zf=>Sum.elim (fun l27=>some 0) (fun r28=>some r28) Zf) (fun r11=>some r11) o8
def yw (N:Nat) (x0:Int):Option (Bool) :=
  some ((aF .geq x0 0)&&(aF .leq x0 5))
def uI (N:Nat) (x0:dn) (c0:Str):Option (Bool) :=
  some (yK .eql x0.Name c0)
def jG (N:Nat) (x0:(List dn)) (x1:(dn→Option Bool)) (s1:Int):Option (Int ⊕ (Unit ⊕ Int)) :=
  bif (aF .lss s1 (List.length x0:Int)) then ((idx x0 s1).bind fun v2=>(x1 v2).bind fun v3=>bif v3 then (some (.inr (Sum.inr s1))) else (some (.inl (IntKind.i64.wrap (s1+1))))) else (some (.inr (Sum.inl ())))
def ku (N:Nat) (x0:(List dn)) (x1:(dn→Option Bool)):Option (Int) :=
  (dU (jG N x0 x1) N 0).bind fun o6=>Sum.elim (fun l8=>some (-1)) (fun r9=>some r9) o6
def jg (N:Nat) (x0:GPermitPlan) (x1:Str):Option (dn×Bool) :=
  (ku N x0.bG (fun y0=>uI N y0 x1)).bind fun v1=>bif (aF .lss v1 0) then (some ((⟨[],false,[]⟩:dn),false)) else ((idx x0.bG v1).bind fun v2=>some (v2,true))
def uf (N:Nat) (x0:aG) (c0:Str):Option (Bool) :=
  some (yK .eql x0.Name c0)
def jh (N:Nat) (x0:(List aG)) (x1:(aG→Option Bool)) (s1:Int):Option (Int ⊕ (Unit ⊕ Int)) :=
  bif (aF .lss s1 (List.length x0:Int)) then ((idx x0 s1).bind fun v2=>(x1 v2).bind fun v3=>bif v3 then (some (.inr (Sum.inr s1))) else (some (.inl (IntKind.i64.wrap (s1+1))))) else (some (.inr (Sum.inl ())))
def jI (N:Nat) (x0:(List aG)) (x1:(aG→Option Bool)):Option (Int) :=
  (dU (jh N x0 x1) N 0).bind fun o6=>Sum.elim (fun l8=>some (-1)) (fun r9=>some r9) o6
def ou (N:Nat) (x0:GPermitPlan) (x1:Str):Option (aG×Bool) :=
  (jI N x0.aj (fun y0=>uf N y0 x1)).bind fun v1=>bif (aF .lss v1 0) then (some ((⟨[],0,[],0,0,[]⟩:aG),false)) else ((idx x0.aj v1).bind fun v2=>some (v2,true))
def nZ (N:Nat) (x0:GPermitPlan) (v17:aG) (s18:Int):Option (Int ⊕ (Unit ⊕ Int)) :=
  bif (aF .lss s18 (List.length v17.Locks:Int)) then ((idx v17.Locks s18).bind fun v19=>(ou N x0 v19).bind fun v20=>bif (!v20.2) then (some (.inr (Sum.inr 6))) else (bif ((aF .neq v20.1.Kind 5)||(aF .eql v17.Kind 5)) then (some (.inr (Sum.inr 3))) else (some (.inl (IntKind.i64.wrap (s18+1)))))) else (some (.inr (Sum.inl ())))
def nY (N:Nat) (x0:GPermitPlan) (s16:Int):Option (Int ⊕ (Unit ⊕ Int)) :=
  bif (aF .lss s16 (List.length x0.aj:Int)) then ((idx x0.aj s16).bind fun v17=>(dU (nZ N x0 v17) N 0).bind fun Zm=>Sum.elim (fun l26=>some (.inl (IntKind.i64.wrap (s16+1)))) (fun r27=>some (.inr (Sum.inr r27))) Zm) else (some (.inr (Sum.inl ())))
def nX (N:Nat) (x0:GPermitPlan) (s1:((List (Str×Bool))×Int)):Option (((List (Str×Bool))×Int) ⊕ (Unit ⊕ Int)) :=
  bif (aF .lss s1.2 (List.length x0.aj:Int)) then ((idx x0.aj s1.2).bind fun v2=>(jg N x0 v2.Space).bind fun v3=>(qh N v2.Name).bind fun v4=>bif (!v4) then (some (.inr (Sum.inr 4))) else (bif (je false s1.1 v2.Name) then (some (.inr (Sum.inr 5))) else ((yw N v2.Kind).bind fun v5=>bif ((((!v5)||(aF .lss v2.From 0))||(aF .geq v2.From v2.To))||(aF .gtr v2.To 1000000)) then (some (.inr (Sum.inr 2))) else (bif (!v3.2) then (some (.inr (Sum.inr 6))) else (bif (aF .gtr (List.length v2.Locks:Int) 10) then (some (.inr (Sum.inr 8))) else (some (.inl ((rE s1.1 v2.Name true),(IntKind.i64.wrap (s1.2+1)))))))))) else (some (.inr (Sum.inl ())))
def rV (N:Nat) (x0:GPermitPlan):Option (Int) :=
  (dU (nX N x0) N (([]:(List (Str×Bool))),0)).bind fun V4=>Sum.elim (fun l14=>(dU (nY N x0) N 0).bind fun o30=>Sum.elim (fun l32=>some 0) (fun r33=>some r33) o30) (fun r15=>some r15) V4
def pX (N:Nat) (x0:GPermitPlan) (s2:Int):Option (Int ⊕ (Unit ⊕ Int)) :=
  bif (aF .lss s2 (List.length x0.dR:Int)) then ((idx x0.dR s2).bind fun v3=>(yw N v3.A).bind fun v4=>(bif (!(!v4)) then (yw N v3.B) else some false).bind fun v5=>bif ((((!v4)||(!v5))||(aF .lss v3.Reach 0))||(aF .gtr v3.Reach 2)) then (some (.inr (Sum.inr 2))) else (some (.inl (IntKind.i64.wrap (s2+1))))) else (some (.inr (Sum.inl ())))
def sD (N:Nat) (x0:GPermitPlan):Option (Int) :=
  bif (((aF .gtr (List.length x0.bG:Int) 30)||(aF .gtr (List.length x0.dR:Int) 30))||(aF .gtr (List.length x0.aj:Int) 20)) then (some 8) else (bif ((aF .lss x0.fC 1)||(aF .gtr x0.fC 10000)) then (some 2) else ((sK N x0).bind fun v1=>bif (aF .neq v1 0) then (some v1) else ((dU (pX N x0) N 0).bind fun o8=>Sum.elim (fun l10=>(rV N x0).bind fun v12=>some v12) (fun r11=>some r11) o8)))
def kX (N:Nat) (x0:(List Str)) (x1:Str) (s1:Int):Option (Int ⊕ (Unit ⊕ Int)) :=
  bif (aF .lss s1 (List.length x0:Int)) then ((idx x0 s1).bind fun v2=>bif (yK .eql x1 v2) then (some (.inr (Sum.inr s1))) else (some (.inl (IntKind.i64.wrap (s1+1))))) else (some (.inr (Sum.inl ())))
def qj (N:Nat) (x0:(List Str)) (x1:Str):Option (Int) :=
  (dU (kX N x0 x1) N 0).bind fun o5=>Sum.elim (fun l7=>some (-1)) (fun r8=>some r8) o5
def iD (N:Nat) (x0:(List Str)) (x1:Str):Option (Bool) :=
  (qj N x0 x1).bind fun v1=>some (aF .geq v1 0)
def qV (N:Nat) (x0:GPermitPlan) (x1:Str) (x2:Str):Option (Int) :=
  (jg N x0 x1).bind fun v1=>(jg N x0 x2).bind fun v2=>bif (yK .eql x1 x2) then (some 0) else ((iD N v1.1.Next x2).bind fun v3=>(bif (!v3) then (iD N v2.1.Next x1) else some false).bind fun v4=>bif (v3||v4) then (some 1) else (some 2))
def En (N:Nat) (x0:GPermitPlan) (x1:Str) (x2:Str):Option (Int×Int) :=
  (sD N x0).bind fun v1=>bif (aF .neq v1 0) then (some (0,v1)) else ((jg N x0 x1).bind fun v2=>(jg N x0 x2).bind fun v3=>bif ((!v2.2)||(!v3.2)) then (some (0,6)) else ((qV N x0 x1 x2).bind fun v4=>some (v4,0)))
def lU (N:Nat) (x0:(List dn)):Option ((List dn)) :=
  (app ([]:(List dn)) x0).bind fun v1=>some v1
def jq (N:Nat) (x0:(List bT)):Option ((List bT)) :=
  (app ([]:(List bT)) x0).bind fun v1=>some v1
def kU (N:Nat) (x0:(List aG)):Option ((List aG)) :=
  (app ([]:(List aG)) x0).bind fun v1=>some v1
def gY (N:Nat) (x0:(List Str)):Option ((List Str)) :=
  (app ([]:(List Str)) x0).bind fun v1=>some v1
def qp (N:Nat) (v3:(List aG)) (s14:(Int×(List aG))):Option ((Int×(List aG)) ⊕ (List aG)) :=
  bif (aF .lss s14.1 (List.length v3:Int)) then ((idx s14.2 s14.1).bind fun v15=>(gY N v15.Locks).bind fun v16=>(idx s14.2 s14.1).bind fun v17=>some (.inl ((IntKind.i64.wrap (s14.1+1)),(List.set s14.2 (Int.toNat s14.1) ({ v17 with Locks:=v16 }:aG))))) else (some (.inr s14.2))
def qo (N:Nat) (v1:(List dn)) (s7:(Int×(List dn))):Option ((Int×(List dn)) ⊕ (List dn)) :=
  bif (aF .lss s7.1 (List.length v1:Int)) then ((idx s7.2 s7.1).bind fun v8=>(gY N v8.Next).bind fun v9=>(idx s7.2 s7.1).bind fun v10=>some (.inl ((IntKind.i64.wrap (s7.1+1)),(List.set s7.2 (Int.toNat s7.1) ({ v10 with Next:=v9 }:dn))))) else (some (.inr s7.2))
def x9 (N:Nat) (x0:GPermitPlan):Option (GPermitPlan) :=
  (lU N x0.bG).bind fun v1=>(jq N x0.dR).bind fun v2=>(kU N x0.aj).bind fun v3=>(dU (qo N v1) N (0,v1)).bind fun V4=>(dU (qp N v3) N (0,v3)).bind fun XK=>some ({ ({ x0 with dR:=v2 }:GPermitPlan) with bG:=V4,aj:=XK }:GPermitPlan)
def nO (N:Nat) (x0:(List Int)) (x1:Int) (s1:Int):Option (Int ⊕ (Unit ⊕ Int)) :=
  bif (aF .lss s1 (List.length x0:Int)) then ((idx x0 s1).bind fun v2=>bif (aF .eql x1 v2) then (some (.inr (Sum.inr s1))) else (some (.inl (IntKind.i64.wrap (s1+1))))) else (some (.inr (Sum.inl ())))
def ul (N:Nat) (x0:(List Int)) (x1:Int):Option (Int) :=
  (dU (nO N x0 x1) N 0).bind fun o5=>Sum.elim (fun l7=>some (-1)) (fun r8=>some r8) o5
def pO (N:Nat) (x0:(List Int)) (x1:Int):Option (Bool) :=
  (ul N x0 x1).bind fun v1=>some (aF .geq v1 0)
def fO (N:Nat) (g0:ai) (aQ:(List (Str×ah))) (aI:(List (Str×ay))) (aK:(List (Str×Str))) (x1:Str) (x2:(List Int)):Option Bool :=
  (pO N x2 ((je (⟨0,[],0⟩:ah) aQ x1).state)).bind fun v1=>some v1
def fH (N:Nat) (g0:ai) (aQ:(List (Str×ah))) (aI:(List (Str×ay))) (aK:(List (Str×Str))) (x1:Str) (x2:Int):Option (List (Str×ah)) :=
  some (rE aQ x1 ({ (je (⟨0,[],0⟩:ah) aQ x1) with state:=x2 }:ah))
def sU (N:Nat) (x0:GPermitPlan) (v1:(dn×Bool)) (s11:((List Str)×Int)):Option (((List Str)×Int) ⊕ (List Str)) :=
  bif (aF .lss s11.2 (List.length x0.bG:Int)) then ((idx x0.bG s11.2).bind fun v12=>(bif v12.dm then (qV N x0 v12.Name v1.1.Name) else some 0).bind fun v13=>bif (v12.dm&&(aF .eql v13 1)) then ((app s11.1 [v12.Name]).bind fun v14=>some (.inl (v14,(IntKind.i64.wrap (s11.2+1))))) else (some (.inl (s11.1,(IntKind.i64.wrap (s11.2+1)))))) else (some (.inr s11.1))
def yO (N:Nat) (x0:GPermitPlan) (x1:aG):Option ((List Str)) :=
  (jg N x0 x1.Space).bind fun v1=>((((bif (aF .eql x1.Kind 0) then (some (aF .eql x1.Kind 0)) else (bif (aF .eql x1.Kind 1) then (some (aF .eql x1.Kind 1)) else (some (aF .eql x1.Kind 2)))):Option Bool).bind fun o4=>bif o4 then (bif v1.1.dm then ((app [] [v1.1.Name]).bind fun v6=>some v6) else (some [])) else (some [])):Option (List Str)).bind fun o9=>bif (aF .eql x1.Kind 0) then ((dU (sU N x0 v1) N (o9,0)).bind fun o17=>some o17) else (some o9)
def rq (N:Nat) (g0:ai) (aQ:(List (Str×ah))) (aI:(List (Str×ay))) (aK:(List (Str×Str))) (x1:Str):Option (Bool×Bool) :=
  (jg N g0.plan x1).bind fun v1=>bif (!v1.1.dm) then (some (true,true)) else (some ((((((oW aI x1)&&(aF .leq (IntKind.i64.wrap (g0.now - ((je (⟨0,0,0⟩:ay) aI x1).at_))) g0.plan.fC))&&(aF .geq ((je (⟨0,0,0⟩:ay) aI x1).mW) 195))&&(aF .leq ((je (⟨0,0,0⟩:ay) aI x1).mW) 235))&&(aF .leq ((je (⟨0,0,0⟩:ay) aI x1).O9) 50)),((((((oW aI x1)&&(aF .leq (IntKind.i64.wrap (g0.now - ((je (⟨0,0,0⟩:ay) aI x1).at_))) g0.plan.fC))&&(aF .geq ((je (⟨0,0,0⟩:ay) aI x1).mW) 195))&&(aF .leq ((je (⟨0,0,0⟩:ay) aI x1).mW) 235))&&(aF .leq ((je (⟨0,0,0⟩:ay) aI x1).O9) 50))&&(aF .leq ((je (⟨0,0,0⟩:ay) aI x1).O9) 10))))
def mO (N:Nat) (g0:ai) (aQ:(List (Str×ah))) (aI:(List (Str×ay))) (aK:(List (Str×Str))) (x0:Str) (c1:aG):Option Bool :=
  (rq N g0 aQ aI aK x0).bind fun v1=>bif (aF .eql c1.Kind 0) then (some v1.2) else (some v1.1)
def gK (N:Nat) (g0:ai) (aQ:(List (Str×ah))) (aI:(List (Str×ay))) (aK:(List (Str×Str))) (x0:(List Str)) (oM:aG) (s1:Int):Option (Int ⊕ (Unit ⊕ Int)) :=
  bif (aF .lss s1 (List.length x0:Int)) then ((idx x0 s1).bind fun v2=>(mO N g0 aQ aI aK v2 oM).bind fun v3=>bif v3 then (some (.inr (Sum.inr s1))) else (some (.inl (IntKind.i64.wrap (s1+1))))) else (some (.inr (Sum.inl ())))
def gX (N:Nat) (g0:ai) (aQ:(List (Str×ah))) (aI:(List (Str×ay))) (aK:(List (Str×Str))) (x0:(List Str)) (oM:aG):Option Int :=
  (dU (gK N g0 aQ aI aK x0 oM) N 0).bind fun o6=>Sum.elim (fun l8=>some (-1)) (fun r9=>some r9) o6
def gG (N:Nat) (g0:ai) (aQ:(List (Str×ah))) (aI:(List (Str×ay))) (aK:(List (Str×Str))) (oM:aG) (s2:((List Str)×Int×Int)):Option (((List Str)×Int×Int) ⊕ ((List Str)×Int)) :=
  bif (aF .lss s2.2.2 (List.length s2.1:Int)) then ((idx s2.1 s2.2.2).bind fun v3=>(mO N g0 aQ aI aK v3 oM).bind fun v4=>bif (!v4) then ((idx s2.1 s2.2.1).bind fun v5=>some (.inl ((List.set s2.1 (Int.toNat s2.2.1) v3),(IntKind.i64.wrap (s2.2.1+1)),(IntKind.i64.wrap (s2.2.2+1))))) else (some (.inl (s2.1,s2.2.1,(IntKind.i64.wrap (s2.2.2+1)))))) else (some (.inr (s2.1,s2.2.1)))
def gV (N:Nat) (g0:ai) (aQ:(List (Str×ah))) (aI:(List (Str×ay))) (aK:(List (Str×Str))) (x0:(List Str)) (oM:aG):Option (List Str) :=
  (gX N g0 aQ aI aK x0 oM).bind fun v1=>bif (aF .eql v1 (-1)) then (some x0) else ((dU (gG N g0 aQ aI aK oM) N (x0,v1,(IntKind.i64.wrap (v1+1)))).bind fun o8=>(L9 o8.1 o8.2 (List.length o8.1:Int)).bind fun v10=>(bif Nat.beq ((Int.toNat o8.2)+(Int.toNat (List.length o8.1:Int) - Int.toNat o8.2)) (List.length o8.1) then some (List.take (Int.toNat o8.2) o8.1 ++ List.replicate (Int.toNat (List.length o8.1:Int) - Int.toNat o8.2) []) else none).bind fun v11=>(L9 v11 0 o8.2).bind fun v12=>some v12)
def nN (N:Nat) (g0:ai) (aQ:(List (Str×ah))) (aI:(List (Str×ay))) (aK:(List (Str×Str))) (x1:aG):Option (List Str) :=
  (yO N g0.plan x1).bind fun v1=>(gV N g0 aQ aI aK v1 x1).bind fun v2=>some v2
def kM (N:Nat) (g0:ai) (aQ:(List (Str×ah))) (aI:(List (Str×ay))) (aK:(List (Str×Str))) (x0:Str):Option Bool :=
  (fO N g0 aQ aI aK x0 [2]).bind fun v1=>some v1
def gJ (N:Nat) (g0:ai) (aQ:(List (Str×ah))) (aI:(List (Str×ay))) (aK:(List (Str×Str))) (x0:(List Str)) (s1:Int):Option (Int ⊕ (Unit ⊕ Int)) :=
  bif (aF .lss s1 (List.length x0:Int)) then ((idx x0 s1).bind fun v2=>(kM N g0 aQ aI aK v2).bind fun v3=>bif v3 then (some (.inr (Sum.inr s1))) else (some (.inl (IntKind.i64.wrap (s1+1))))) else (some (.inr (Sum.inl ())))
def gW (N:Nat) (g0:ai) (aQ:(List (Str×ah))) (aI:(List (Str×ay))) (aK:(List (Str×Str))) (x0:(List Str)):Option Int :=
  (dU (gJ N g0 aQ aI aK x0) N 0).bind fun o6=>Sum.elim (fun l8=>some (-1)) (fun r9=>some r9) o6
def eU (N:Nat) (g0:ai) (aQ:(List (Str×ah))) (aI:(List (Str×ay))) (aK:(List (Str×Str))) (s2:((List Str)×Int×Int)):Option (((List Str)×Int×Int) ⊕ ((List Str)×Int)) :=
  bif (aF .lss s2.2.2 (List.length s2.1:Int)) then ((idx s2.1 s2.2.2).bind fun v3=>(kM N g0 aQ aI aK v3).bind fun v4=>bif (!v4) then ((idx s2.1 s2.2.1).bind fun v5=>some (.inl ((List.set s2.1 (Int.toNat s2.2.1) v3),(IntKind.i64.wrap (s2.2.1+1)),(IntKind.i64.wrap (s2.2.2+1))))) else (some (.inl (s2.1,s2.2.1,(IntKind.i64.wrap (s2.2.2+1)))))) else (some (.inr (s2.1,s2.2.1)))
def iL (N:Nat) (g0:ai) (aQ:(List (Str×ah))) (aI:(List (Str×ay))) (aK:(List (Str×Str))) (x0:(List Str)):Option (List Str) :=
  (gW N g0 aQ aI aK x0).bind fun v1=>bif (aF .eql v1 (-1)) then (some x0) else ((dU (eU N g0 aQ aI aK) N (x0,v1,(IntKind.i64.wrap (v1+1)))).bind fun o8=>(L9 o8.1 o8.2 (List.length o8.1:Int)).bind fun v10=>(bif Nat.beq ((Int.toNat o8.2)+(Int.toNat (List.length o8.1:Int) - Int.toNat o8.2)) (List.length o8.1) then some (List.take (Int.toNat o8.2) o8.1 ++ List.replicate (Int.toNat (List.length o8.1:Int) - Int.toNat o8.2) []) else none).bind fun v11=>(L9 v11 0 o8.2).bind fun v12=>some v12)
def lT (N:Nat) (g0:ai) (aQ:(List (Str×ah))) (aI:(List (Str×ay))) (aK:(List (Str×Str))) (x1:aG):Option (List Str) :=
  (gY N x1.Locks).bind fun v1=>(iL N g0 aQ aI aK v1).bind fun v2=>some v2
def lg (N:Nat) (g0:ai) (aI:(List (Str×ay))) (aK:(List (Str×Str))) (s10:(Bool×Int×(List (Str×ah)))):Option ((Bool×Int×(List (Str×ah))) ⊕ (Bool×(List (Str×ah)))) :=
  bif (aF .lss s10.2.1 (List.length g0.plan.aj:Int)) then ((idx g0.plan.aj s10.2.1).bind fun v11=>(fO N g0 s10.2.2 aI aK v11.Name [2]).bind fun v12=>(bif v12 then (nN N g0 s10.2.2 aI aK v11) else some []).bind fun v13=>(bif (v12&&(!(aF .gtr (List.length v13:Int) 0))) then (lT N g0 s10.2.2 aI aK v11) else some []).bind fun v14=>bif (v12&&((aF .gtr (List.length v13:Int) 0)||(aF .gtr (List.length v14:Int) 0))) then ((fH N g0 s10.2.2 aI aK v11.Name 3).bind fun v15=>some (.inl (true,(IntKind.i64.wrap (s10.2.1+1)),v15))) else (some (.inl (s10.1,(IntKind.i64.wrap (s10.2.1+1)),s10.2.2)))) else (some (.inr (s10.1,s10.2.2)))
def mQ (N:Nat) (g0:ai) (aI:(List (Str×ay))) (aK:(List (Str×Str))) (s9:(Bool×(List (Str×ah)))):Option ((Bool×(List (Str×ah))) ⊕ (List (Str×ah))) :=
  bif s9.1 then ((dU (lg N g0 aI aK) N (false,0,s9.2)).bind fun Zg=>some (.inl (Zg.1,Zg.2))) else (some (.inr s9.2))
def mP (N:Nat) (g0:ai) (aI:(List (Str×ay))) (aK:(List (Str×Str))) (s1:(Int×(List (Str×ah)))):Option ((Int×(List (Str×ah))) ⊕ (List (Str×ah))) :=
  bif (aF .lss s1.1 (List.length g0.plan.aj:Int)) then ((idx g0.plan.aj s1.1).bind fun v2=>(fO N g0 s1.2 aI aK v2.Name [0,1,2,3]).bind fun v3=>bif (v3&&(aF .leq ((je (⟨0,[],0⟩:ah) s1.2 v2.Name).xX) g0.now)) then ((fH N g0 s1.2 aI aK v2.Name 6).bind fun v4=>some (.inl ((IntKind.i64.wrap (s1.1+1)),v4))) else (some (.inl ((IntKind.i64.wrap (s1.1+1)),s1.2)))) else (some (.inr s1.2))
def lH (N:Nat) (g0:ai) (aQ:(List (Str×ah))) (aI:(List (Str×ay))) (aK:(List (Str×Str))):Option (List (Str×ah)) :=
  (dU (mP N g0 aI aK) N (0,aQ)).bind fun o7=>(dU (mQ N g0 aI aK) N (true,o7)).bind fun Zh=>some Zh
def pW (N:Nat) (x0:GPermitPlan) (s7:(Int×(List (Str×ah)))):Option ((Int×(List (Str×ah))) ⊕ (List (Str×ah))) :=
  bif (aF .lss s7.1 (List.length x0.aj:Int)) then ((idx x0.aj s7.1).bind fun v8=>some (.inl ((IntKind.i64.wrap (s7.1+1)),(rE s7.2 v8.Name (⟨0,[],v8.To⟩:ah))))) else (some (.inr s7.2))
def ru (N:Nat) (x0:GPermitPlan):Option ((Option (ai×(List (Str×ah))×(List (Str×ay))×(List (Str×Str))))×(Int)) :=
  (sD N x0).bind fun v1=>bif (aF .neq v1 0) then (some (none,v1)) else ((x9 N x0).bind fun v2=>(dU (pW N x0) N (0,([]:(List (Str×ah))))).bind fun Q8=>(lH N (⟨v2,0,[]⟩:ai) Q8 ([]:(List (Str×ay))) ([]:(List (Str×Str)))).bind fun v12=>some ((some ((⟨v2,0,[]⟩:ai),v12,([]:(List (Str×ay))),([]:(List (Str×Str))))),0))
def wU (N:Nat):Option ((List bJ)) :=
  some [(⟨([116,105,99,107]:Str),([]:Str),([]:(List Int)),(some 125)⟩:bJ),(⟨([97,112,112,114,111,118,101]:Str),([110,112]:Str),[0],(some 126)⟩:bJ),(⟨([111,112,101,110]:Str),([110,112]:Str),[1],(some 127)⟩:bJ),(⟨([115,117,115,112,101,110,100]:Str),([110]:Str),[2],(some 128)⟩:bJ),(⟨([114,101,115,117,109,101]:Str),([110,112]:Str),[3],(some 127)⟩:bJ),(⟨([99,108,111,115,101]:Str),([110]:Str),[2,3],(some 129)⟩:bJ),(⟨([99,97,110,99,101,108]:Str),([110]:Str),[0,1],(some 130)⟩:bJ),(⟨([103,97,115]:Str),([115,111,103]:Str),([]:(List Int)),(some 131)⟩:bJ),(⟨([101,110,116,101,114]:Str),([112,115]:Str),([]:(List Int)),(some 132)⟩:bJ),(⟨([108,101,97,118,101]:Str),([112]:Str),([]:(List Int)),(some 133)⟩:bJ),(⟨([97,108,97,114,109]:Str),([115]:Str),([]:(List Int)),(some 134)⟩:bJ),(⟨([101,120,116,101,110,100]:Str),([110,112,116]:Str),[1,2,3],(some 135)⟩:bJ)]
def vT (N:Nat) (x0:Int):Option (Bool) :=
  some ((aF .geq x0 0)&&(aF .leq x0 1000000))
def xH (N:Nat) (x0:(Option (ai×Value×Value×Value))) (x1:GEvent):Option ((List Str)×Int) :=
  (wU N).bind fun v1=>bif (Option.isNone x0) then (some ([],1)) else ((bif (!((aF .lss x1.Op 0)||(aF .geq x1.Op (List.length v1:Int)))) then (vT N x1.At) else some false).bind fun v2=>bif (((aF .lss x1.Op 0)||(aF .geq x1.Op (List.length v1:Int)))||(!v2)) then (some ([],2)) else (none))
def uU (N:Nat) (x0:(List Str)) (x1:(List Str)) (s1:Int):Option (Int ⊕ (Unit ⊕ Bool)) :=
  bif (aF .lss s1 (List.length x0:Int)) then ((idx x0 s1).bind fun v2=>(idx x1 s1).bind fun v3=>bif (yK .neq v2 v3) then (some (.inr (Sum.inr false))) else (some (.inl (IntKind.i64.wrap (s1+1))))) else (some (.inr (Sum.inl ())))
def xI (N:Nat) (x0:(List Str)) (x1:(List Str)):Option (Bool) :=
  bif (aF .neq (List.length x0:Int) (List.length x1:Int)) then (some false) else ((dU (uU N x0 x1) N 0).bind fun o6=>Sum.elim (fun l8=>some true) (fun r9=>some r9) o6)
def xJ (N:Nat) (g0:ai) (aQ:(List (Str×ah))) (aI:(List (Str×ay))) (aK:(List (Str×Str))) (x1:GEvent):Option au :=
  some (⟨[],0⟩:au)
def jZ (N:Nat) (x0:Int) (x1:(List Str)):Option (au) :=
  some (⟨x1,x0⟩:au)
def pK (N:Nat) (g0:ai) (aQ:(List (Str×ah))) (aI:(List (Str×ay))) (aK:(List (Str×Str))) (x1:GEvent):Option ((List (Str×ah))×au) :=
  (qh N x1.Person).bind fun v1=>bif (!v1) then ((jZ N 4 ([]:(List Str))).bind fun v2=>some (aQ,v2)) else (some ((rE aQ x1.Name ({ ({ (je (⟨0,[],0⟩:ah) aQ x1.Name) with state:=1 }:ah) with yY:=x1.Person }:ah)),(⟨[],0⟩:au)))
def rM (N:Nat) (g0:ai) (aQ:(List (Str×ah))) (aI:(List (Str×ay))) (aK:(List (Str×Str))) (x1:aG):Option aG :=
  some x1
def tZ (N:Nat) (x0:bT) (c0:Int) (c1:aG) (c2:aG):Option (Bool) :=
  some ((aF .leq c0 x0.Reach)&&(((aF .eql x0.A c1.Kind)&&(aF .eql x0.B c2.Kind))||((aF .eql x0.A c2.Kind)&&(aF .eql x0.B c1.Kind))))
def iH (N:Nat) (x0:(List bT)) (x1:(bT→Option Bool)) (s1:Int):Option (Int ⊕ (Unit ⊕ Int)) :=
  bif (aF .lss s1 (List.length x0:Int)) then ((idx x0 s1).bind fun v2=>(x1 v2).bind fun v3=>bif v3 then (some (.inr (Sum.inr s1))) else (some (.inl (IntKind.i64.wrap (s1+1))))) else (some (.inr (Sum.inl ())))
def iU (N:Nat) (x0:(List bT)) (x1:(bT→Option Bool)):Option (Int) :=
  (dU (iH N x0 x1) N 0).bind fun o6=>Sum.elim (fun l8=>some (-1)) (fun r9=>some r9) o6
def jv (N:Nat) (x0:(List bT)) (x1:(bT→Option Bool)):Option (Bool) :=
  (iU N x0 x1).bind fun v1=>some (aF .geq v1 0)
def vk (N:Nat) (x0:GPermitPlan) (x1:aG) (x2:aG):Option (Bool) :=
  bif (yK .eql x1.Name x2.Name) then (some false) else ((qV N x0 x1.Space x2.Space).bind fun v1=>(jv N x0.dR (fun y0=>tZ N y0 v1 x1 x2)).bind fun v2=>some v2)
def nJ (N:Nat) (g0:ai) (aQ:(List (Str×ah))) (aI:(List (Str×ay))) (aK:(List (Str×Str))) (x0:aG) (c1:aG):Option Bool :=
  (vk N g0.plan x0 c1).bind fun v1=>some v1
def iC (N:Nat) (g0:ai) (aQ:(List (Str×ah))) (aI:(List (Str×ay))) (aK:(List (Str×Str))) (oM:aG) (s1:((List Str)×Int)):Option (((List Str)×Int) ⊕ (List Str)) :=
  bif (aF .lss s1.2 (List.length g0.plan.aj:Int)) then ((idx g0.plan.aj s1.2).bind fun v2=>(fO N g0 aQ aI aK v2.Name [2]).bind fun v3=>(bif v3 then (nJ N g0 aQ aI aK v2 oM) else some false).bind fun v4=>bif (v3&&v4) then ((app s1.1 [v2.Name]).bind fun v5=>some (.inl (v5,(IntKind.i64.wrap (s1.2+1))))) else (some (.inl (s1.1,(IntKind.i64.wrap (s1.2+1)))))) else (some (.inr s1.1))
def jD (N:Nat) (g0:ai) (aQ:(List (Str×ah))) (aI:(List (Str×ay))) (aK:(List (Str×Str))) (oM:aG):Option (List Str) :=
  (dU (iC N g0 aQ aI aK oM) N ([],0)).bind fun o8=>some o8
def oh (N:Nat) (g0:ai) (aQ:(List (Str×ah))) (aI:(List (Str×ay))) (x0:Str) (c1:aG):Option Bool :=
  (qV N g0.plan x0 c1.Space).bind fun v1=>some (aF .leq v1 1)
def oq (N:Nat) (x0:(List Str)):Option ((List Str)):=Py x0
def iK (N:Nat) (g0:ai) (aQ:(List (Str×ah))) (aI:(List (Str×ay))) (oM:aG) (s2:(List Str)) (p3:(Str×Str)):Option (List Str) :=
  (oh N g0 aQ aI p3.2 oM).bind fun v5=>bif v5 then ((app s2 [p3.1]).bind fun v6=>some v6) else (some s2)
def jf (N:Nat) (g0:ai) (aQ:(List (Str×ah))) (aI:(List (Str×ay))) (aK:(List (Str×Str))) (oM:aG):Option (List Str) :=
  Jd aK fun q4p=>(KJ (iK N g0 aQ aI oM) q4p []).bind fun s2=>(oq N s2).bind fun v8=>some v8
def iq {S:Type} (N:Nat) (Y:S→bM→Option (S×Bool)) (o8:(List bM)) (s10:(Int×S)):Option ((Int×S) ⊕ (S ⊕ S)) :=
  bif (aF .lss s10.1 (List.length o8:Int)) then ((idx o8 s10.1).bind fun v11=>(bif (aF .gtr (List.length v11.Names:Int) 0) then (Y s10.2 v11) else some (s10.2,false)).bind fun v12=>bif ((aF .gtr (List.length v11.Names:Int) 0)&&(!v12.2)) then (some (.inr (Sum.inr v12.1))) else (some (.inl ((IntKind.i64.wrap (s10.1+1)),v12.1)))) else (some (.inr (Sum.inl s10.2)))
def lJ {S:Type} (N:Nat) (Y:S→bM→Option (S×Bool)) (y0:S) (g0:ai) (aQ:(List (Str×ah))) (aI:(List (Str×ay))) (aK:(List (Str×Str))) (c1:aG):Option S :=
  (bif (aF .lss g0.now c1.From) then (Y y0 (⟨2,[]⟩:bM)) else some (y0,false)).bind fun v1=>bif ((aF .lss g0.now c1.From)&&(!v1.2)) then (some v1.1) else ((lT N g0 aQ aI aK c1).bind fun v2=>(jD N g0 aQ aI aK c1).bind fun v3=>(nN N g0 aQ aI aK c1).bind fun v4=>((bif (aF .eql c1.Kind 3) then ((jf N g0 aQ aI aK c1).bind fun v5=>(app [(⟨18,v2⟩:bM),(⟨20,v3⟩:bM),(⟨21,v4⟩:bM)] [(⟨17,v5⟩:bM)]).bind fun v6=>some v6) else (some [(⟨18,v2⟩:bM),(⟨20,v3⟩:bM),(⟨21,v4⟩:bM)])):Option (List bM)).bind fun o8=>(dU (iq N Y o8) N (0,v1.1)).bind fun QU=>Sum.elim (fun l17=>some l17) (fun VS=>some VS) QU)
def jm (N:Nat) (s7:au) (i8:bM):Option (au×Option Nat) :=
  (jZ N i8.Err i8.Names).bind fun v12=>some (v12,some 0)
def oG (N:Nat) (g0:ai) (aQ:(List (Str×ah))) (aI:(List (Str×ay))) (aK:(List (Str×Str))) (x1:GEvent):Option ((List (Str×ah))×au) :=
  (qh N x1.Person).bind fun v1=>bif (!v1) then ((jZ N 4 ([]:(List Str))).bind fun v2=>some (aQ,v2)) else (bif (yK .eql x1.Person ((je (⟨0,[],0⟩:ah) aQ x1.Name).yY)) then ((jZ N 26 ([]:(List Str))).bind fun v3=>some (aQ,v3)) else ((ou N g0.plan x1.Name).bind fun v4=>(rM N g0 aQ aI aK v4.1).bind fun v5=>(lJ N (yl (jm N) 1) ((⟨[],0⟩:au),none) g0 aQ aI aK v5).bind fun TI=>KF TI (fun P7=>(fH N g0 aQ aI aK x1.Name 2).bind fun v14=>some (v14,(⟨[],0⟩:au))) (fun P7=>some (aQ,P7))))
def uQ (N:Nat) (g0:ai) (aQ:(List (Str×ah))) (aI:(List (Str×ay))) (aK:(List (Str×Str))) (x1:GEvent):Option ((List (Str×ah))×au) :=
  (fH N g0 aQ aI aK x1.Name 3).bind fun v1=>some (v1,(⟨[],0⟩:au))
def jS (N:Nat) (x0:aG) (c0:aG):Option (Bool) :=
  (iD N x0.Locks c0.Name).bind fun v1=>some v1
def nM (N:Nat) (g0:ai) (aQ:(List (Str×ah))) (aI:(List (Str×ay))) (aK:(List (Str×Str))) (x1:(aG→Option Bool)) (s1:((List Str)×Int)):Option (((List Str)×Int) ⊕ (List Str)) :=
  bif (aF .lss s1.2 (List.length g0.plan.aj:Int)) then ((idx g0.plan.aj s1.2).bind fun v2=>(fO N g0 aQ aI aK v2.Name [2]).bind fun v3=>(bif v3 then (x1 v2) else some false).bind fun v4=>bif (v3&&v4) then ((app s1.1 [v2.Name]).bind fun v5=>some (.inl (v5,(IntKind.i64.wrap (s1.2+1))))) else (some (.inl (s1.1,(IntKind.i64.wrap (s1.2+1)))))) else (some (.inr s1.1))
def jo (N:Nat) (g0:ai) (aQ:(List (Str×ah))) (aI:(List (Str×ay))) (aK:(List (Str×Str))) (x1:(aG→Option Bool)):Option (List Str) :=
  (dU (nM N g0 aQ aI aK x1) N ([],0)).bind fun o8=>some o8
def jT (N:Nat) (x0:aG) (c0:aG):Option (Bool) :=
  some (((aF .eql x0.Kind 1)&&(yK .eql x0.Space c0.Space))&&(yK .neq x0.Name c0.Name))
def jU (N:Nat) (x0:Str) (c0:aG):Option (Bool) :=
  some (yK .eql x0 c0.Space)
def nR (N:Nat) (x1:(Str→Option Bool)) (s2:(List Str)) (p3:(Str×Str)):Option (List Str) :=
  (x1 p3.2).bind fun v5=>bif v5 then ((app s2 [p3.1]).bind fun v6=>some v6) else (some s2)
def l9 (N:Nat) (g0:ai) (aQ:(List (Str×ah))) (aI:(List (Str×ay))) (aK:(List (Str×Str))) (x1:(Str→Option Bool)):Option (List Str) :=
  Jd aK fun q4p=>(KJ (nR N x1) q4p []).bind fun s2=>(oq N s2).bind fun v8=>some v8
def nV (N:Nat) (g0:ai) (aQ:(List (Str×ah))) (aI:(List (Str×ay))) (aK:(List (Str×Str))) (x1:GEvent):Option ((List (Str×ah))×au) :=
  (ou N g0.plan x1.Name).bind fun v1=>(jg N g0.plan v1.1.Space).bind fun v2=>((bif (aF .eql v1.1.Kind 5) then ((jo N g0 aQ aI aK (fun y0=>jS N y0 v1.1)).bind fun v3=>bif (aF .gtr (List.length v3:Int) 0) then ((jZ N 20 v3).bind fun v4=>some (Sum.inr v4)) else (some (Sum.inl (⟨[],0⟩:au)))) else ((bif (aF .eql v1.1.Kind 1) then (fO N g0 aQ aI aK v1.1.Name [2]) else some false).bind fun v6=>bif (((aF .eql v1.1.Kind 1)&&v6)&&v2.1.dm) then ((jo N g0 aQ aI aK (fun y0=>jT N y0 v1.1)).bind fun v7=>(l9 N g0 aQ aI aK (fun y0=>jU N y0 v1.1)).bind fun v8=>bif ((aF .eql (List.length v7:Int) 0)&&(aF .gtr (List.length v8:Int) 0)) then ((jZ N 21 v8).bind fun v9=>some (Sum.inr v9)) else (some (Sum.inl (⟨[],0⟩:au)))) else (some (Sum.inl (⟨[],0⟩:au))))):Option (au ⊕ au)).bind fun TI=>Sum.elim (fun l15=>(fH N g0 aQ aI aK x1.Name 4).bind fun v17=>some (v17,(⟨[],0⟩:au))) (fun r16=>some (aQ,r16)) TI
def vS (N:Nat) (g0:ai) (aQ:(List (Str×ah))) (aI:(List (Str×ay))) (aK:(List (Str×Str))) (x1:GEvent):Option ((List (Str×ah))×au) :=
  (fH N g0 aQ aI aK x1.Name 5).bind fun v1=>some (v1,(⟨[],0⟩:au))
def rP (N:Nat) (g0:ai) (aQ:(List (Str×ah))) (aI:(List (Str×ay))) (aK:(List (Str×Str))) (x1:GEvent):Option ((List (Str×ay))×au) :=
  (jg N g0.plan x1.Space).bind fun v1=>bif (!v1.2) then ((jZ N 6 ([]:(List Str))).bind fun v2=>some (aI,v2)) else (bif ((((aF .lss x1.nG 0)||(aF .gtr x1.nG 1000))||(aF .lss x1.EY 0))||(aF .gtr x1.EY 1000)) then ((jZ N 2 ([]:(List Str))).bind fun v3=>some (aI,v3)) else (some ((rE aI x1.Space (⟨g0.now,x1.nG,x1.EY⟩:ay)),(⟨[],0⟩:au))))
def mG (N:Nat) (x0:aG) (c0:Str):Option (Bool) :=
  some ((aF .eql x0.Kind 1)&&(yK .eql x0.Space c0))
def qg (N:Nat) (g0:ai) (aQ:(List (Str×ah))) (aI:(List (Str×ay))) (aK:(List (Str×Str))) (x1:Str):Option Bool :=
  (jo N g0 aQ aI aK (fun y0=>mG N y0 x1)).bind fun v1=>some (aF .gtr (List.length v1:Int) 0)
def pM (N:Nat) (g0:ai) (aQ:(List (Str×ah))) (aI:(List (Str×ay))) (aK:(List (Str×Str))) (x0:aG) (c1:dn):Option Bool :=
  (bif (aF .eql x0.Kind 3) then (qV N g0.plan x0.Space c1.Name) else some 0).bind fun v1=>some ((aF .eql x0.Kind 3)&&(aF .leq v1 1))
def iQ (N:Nat) (g0:ai) (aQ:(List (Str×ah))) (aI:(List (Str×ay))) (aK:(List (Str×Str))) (oM:dn) (s1:((List Str)×Int)):Option (((List Str)×Int) ⊕ (List Str)) :=
  bif (aF .lss s1.2 (List.length g0.plan.aj:Int)) then ((idx g0.plan.aj s1.2).bind fun v2=>(fO N g0 aQ aI aK v2.Name [2]).bind fun v3=>(bif v3 then (pM N g0 aQ aI aK v2 oM) else some false).bind fun v4=>bif (v3&&v4) then ((app s1.1 [v2.Name]).bind fun v5=>some (.inl (v5,(IntKind.i64.wrap (s1.2+1))))) else (some (.inl (s1.1,(IntKind.i64.wrap (s1.2+1)))))) else (some (.inr s1.1))
def kH (N:Nat) (g0:ai) (aQ:(List (Str×ah))) (aI:(List (Str×ay))) (aK:(List (Str×Str))) (oM:dn):Option (List Str) :=
  (dU (iQ N g0 aQ aI aK oM) N ([],0)).bind fun o8=>some o8
def qF (N:Nat) (g0:ai) (aQ:(List (Str×ah))) (aI:(List (Str×ay))) (aK:(List (Str×Str))) (x1:GEvent):Option ((List (Str×Str))×au) :=
  (qh N x1.Person).bind fun v1=>bif (!v1) then ((jZ N 4 ([]:(List Str))).bind fun v2=>some (aK,v2)) else ((jg N g0.plan x1.Space).bind fun v3=>bif (!v3.2) then ((jZ N 6 ([]:(List Str))).bind fun v4=>some (aK,v4)) else (bif (oW aK x1.Person) then ((jZ N 18 ([]:(List Str))).bind fun v5=>some (aK,v5)) else ((bif v3.1.dm then (qg N g0 aQ aI aK v3.1.Name) else some false).bind fun v6=>bif (v3.1.dm&&(!v6)) then ((jZ N 21 ([]:(List Str))).bind fun v7=>some (aK,v7)) else ((kH N g0 aQ aI aK v3.1).bind fun v8=>bif (aF .gtr (List.length v8:Int) 0) then ((jZ N 17 v8).bind fun v9=>some (aK,v9)) else (some ((rE aK x1.Person v3.1.Name),(⟨[],0⟩:au)))))))
def qH (N:Nat) (g0:ai) (aQ:(List (Str×ah))) (aI:(List (Str×ay))) (aK:(List (Str×Str))) (x1:GEvent):Option ((List (Str×Str))×au) :=
  (qh N x1.Person).bind fun v1=>bif (!v1) then ((jZ N 4 ([]:(List Str))).bind fun v2=>some (aK,v2)) else (bif (!(oW aK x1.Person)) then ((jZ N 6 ([]:(List Str))).bind fun v3=>some (aK,v3)) else (some ((Gt aK x1.Person),(⟨[],0⟩:au))))
def pJ (N:Nat) (g0:ai) (aQ:(List (Str×ah))) (aI:(List (Str×ay))) (aK:(List (Str×Str))) (x0:aG) (c1:GEvent):Option Bool :=
  (bif (aF .neq x0.Kind 5) then (qV N g0.plan x0.Space c1.Space) else some 0).bind fun v1=>some ((aF .neq x0.Kind 5)&&(aF .leq v1 1))
def iP (N:Nat) (g0:ai) (aQ:(List (Str×ah))) (aI:(List (Str×ay))) (aK:(List (Str×Str))) (oM:GEvent) (s1:((List Str)×Int)):Option (((List Str)×Int) ⊕ (List Str)) :=
  bif (aF .lss s1.2 (List.length g0.plan.aj:Int)) then ((idx g0.plan.aj s1.2).bind fun v2=>(fO N g0 aQ aI aK v2.Name [2]).bind fun v3=>(bif v3 then (pJ N g0 aQ aI aK v2 oM) else some false).bind fun v4=>bif (v3&&v4) then ((app s1.1 [v2.Name]).bind fun v5=>some (.inl (v5,(IntKind.i64.wrap (s1.2+1))))) else (some (.inl (s1.1,(IntKind.i64.wrap (s1.2+1)))))) else (some (.inr s1.1))
def kG (N:Nat) (g0:ai) (aQ:(List (Str×ah))) (aI:(List (Str×ay))) (aK:(List (Str×Str))) (oM:GEvent):Option (List Str) :=
  (dU (iP N g0 aQ aI aK oM) N ([],0)).bind fun o8=>some o8
def lQ (N:Nat) (g0:ai) (aI:(List (Str×ay))) (aK:(List (Str×Str))) (v3:(List Str)) (s4:(Int×(List (Str×ah)))):Option ((Int×(List (Str×ah))) ⊕ (List (Str×ah))) :=
  bif (aF .lss s4.1 (List.length v3:Int)) then ((idx v3 s4.1).bind fun v5=>(fH N g0 s4.2 aI aK v5 3).bind fun v6=>some (.inl ((IntKind.i64.wrap (s4.1+1)),v6))) else (some (.inr s4.2))
def qI (N:Nat) (g0:ai) (aQ:(List (Str×ah))) (aI:(List (Str×ay))) (aK:(List (Str×Str))) (x1:GEvent):Option ((List (Str×ah))×au) :=
  (jg N g0.plan x1.Space).bind fun v1=>bif (!v1.2) then ((jZ N 6 ([]:(List Str))).bind fun v2=>some (aQ,v2)) else ((kG N g0 aQ aI aK x1).bind fun v3=>(dU (lQ N g0 aI aK v3) N (0,aQ)).bind fun o8=>some (o8,(⟨[],0⟩:au)))
def qc (N:Nat) (g0:ai) (aQ:(List (Str×ah))) (aI:(List (Str×ay))) (aK:(List (Str×Str))) (x1:GEvent):Option ((List (Str×ah))×au) :=
  (qh N x1.Person).bind fun v1=>bif (!v1) then ((jZ N 4 ([]:(List Str))).bind fun v2=>some (aQ,v2)) else (bif ((aF .leq x1.To ((je (⟨0,[],0⟩:ah) aQ x1.Name).xX))||(aF .gtr x1.To 1000000)) then ((jZ N 2 ([]:(List Str))).bind fun v3=>some (aQ,v3)) else (some ((rE aQ x1.Name ({ (je (⟨0,[],0⟩:ah) aQ x1.Name) with xX:=x1.To }:ah)),(⟨[],0⟩:au))))
def Fj (N:Nat) (g0:ai) (aQ:(List (Str×ah))) (aI:(List (Str×ay))) (aK:(List (Str×Str))) (n:(Option Nat)) (x1:GEvent):Option ((List (Str×ah))×(List (Str×ay))×(List (Str×Str))×au) :=
  bif decide (n=some 125) then ((xJ N g0 aQ aI aK x1).bind fun y=>some (aQ,aI,aK,y)) else (bif decide (n=some 126) then ((pK N g0 aQ aI aK x1).bind fun y=>some (y.1,aI,aK,y.2)) else (bif decide (n=some 127) then ((oG N g0 aQ aI aK x1).bind fun y=>some (y.1,aI,aK,y.2)) else (bif decide (n=some 128) then ((uQ N g0 aQ aI aK x1).bind fun y=>some (y.1,aI,aK,y.2)) else (bif decide (n=some 129) then ((nV N g0 aQ aI aK x1).bind fun y=>some (y.1,aI,aK,y.2)) else (bif decide (n=some 130) then ((vS N g0 aQ aI aK x1).bind fun y=>some (y.1,aI,aK,y.2)) else (bif decide (n=some 131) then ((rP N g0 aQ aI aK x1).bind fun y=>some (aQ,y.1,aK,y.2)) else (bif decide (n=some 132) then ((qF N g0 aQ aI aK x1).bind fun y=>some (aQ,aI,y.1,y.2)) else (bif decide (n=some 133) then ((qH N g0 aQ aI aK x1).bind fun y=>some (aQ,aI,y.1,y.2)) else (bif decide (n=some 134) then ((qI N g0 aQ aI aK x1).bind fun y=>some (y.1,aI,aK,y.2)) else (bif decide (n=some 135) then ((qc N g0 aQ aI aK x1).bind fun y=>some (y.1,aI,aK,y.2)) else (none)))))))))))
def nI (N:Nat) (g0:ai) (aQ:(List (Str×ah))) (aI:(List (Str×ay))) (aK:(List (Str×Str))) (x1:GEvent):Option (ai×(List (Str×ah))×(List (Str×ay))×(List (Str×Str))×(List Str)×Int) :=
  (wU N).bind fun v1=>(bif (!((aF .lss x1.Op 0)||(aF .geq x1.Op (List.length v1:Int)))) then (vT N x1.At) else some false).bind fun v2=>bif (((aF .lss x1.Op 0)||(aF .geq x1.Op (List.length v1:Int)))||(!v2)) then (some (g0,aQ,aI,aK,[],2)) else (bif (aF .lss x1.At g0.now) then (some (g0,aQ,aI,aK,[],10)) else ((lH N ({ g0 with now:=x1.At }:ai) aQ aI aK).bind fun v3=>(idx v1 x1.Op).bind fun v4=>((bif (!(List.isEmpty v4.states)) then ((ou N (({ g0 with now:=x1.At }:ai).plan) x1.Name).bind fun v5=>bif (!v5.2) then (some (Sum.inr ([],6))) else ((fO N ({ g0 with now:=x1.At }:ai) v3 aI aK x1.Name v4.states).bind fun v6=>bif (!v6) then (some (Sum.inr ([],18))) else (some (Sum.inl ())))) else (some (Sum.inl ()))):Option (Unit ⊕ ((List Str)×Int))).bind fun Q8=>Sum.elim (fun l12=>(Fj N ({ g0 with now:=x1.At }:ai) v3 aI aK v4.O1 x1).bind fun v14=>bif (aF .neq v14.2.2.2.e 0) then (some (({ g0 with now:=x1.At }:ai),v14.1,v14.2.1,v14.2.2.1,v14.2.2.2.names,v14.2.2.2.e)) else ((lH N ({ g0 with now:=x1.At }:ai) v14.1 v14.2.1 v14.2.2.1).bind fun v15=>(app (({ g0 with now:=x1.At }:ai).done) [x1]).bind fun v16=>some (({ ({ g0 with now:=x1.At }:ai) with done:=v16 }:ai),v15,v14.2.1,v14.2.2.1,[],0))) (fun r13=>some (({ g0 with now:=x1.At }:ai),v3,aI,aK,r13.1,r13.2)) Q8))
def vO (N:Nat):Option (Bool) :=
  (BR N).bind fun v1=>(En N v1 ([100,101,99,107]:Str) ([104,111,108,100]:Str)).bind fun v2=>(ru N v1).bind fun v3=>KD v3 (fun OV=>(xH N (none:(Option (ai×Value×Value×Value))) (⟨0,1,([119,101,108,100]:Str),[],([97,110,110]:Str),0,0,0⟩:GEvent)).bind fun v4=>(xH N (none:(Option (ai×Value×Value×Value))) (⟨0,2,([119,101,108,100]:Str),[],([98,111,98]:Str),0,0,0⟩:GEvent)).bind fun v5=>(bif (((((aF .eql v2.2 0)&&(aF .eql v2.1 2))&&(aF .eql OV 0))&&(aF .eql v4.2 0))&&(aF .eql v5.2 21)) then (xI N v5.1 [([116,97,110,107]:Str)]) else some false).bind fun v6=>some ((((((aF .eql v2.2 0)&&(aF .eql v2.1 2))&&(aF .eql OV 0))&&(aF .eql v4.2 0))&&(aF .eql v5.2 21))&&v6)) (fun ug OV=>(nI N ug.1 ug.2.1 ug.2.2.1 ug.2.2.2 (⟨0,1,([119,101,108,100]:Str),[],([97,110,110]:Str),0,0,0⟩:GEvent)).bind fun v12=>(nI N v12.1 v12.2.1 v12.2.2.1 v12.2.2.2.1 (⟨0,2,([119,101,108,100]:Str),[],([98,111,98]:Str),0,0,0⟩:GEvent)).bind fun v13=>(bif (((((aF .eql v2.2 0)&&(aF .eql v2.1 2))&&(aF .eql OV 0))&&(aF .eql v12.2.2.2.2.2 0))&&(aF .eql v13.2.2.2.2.2 21)) then (xI N v13.2.2.2.2.1 [([116,97,110,107]:Str)]) else some false).bind fun v14=>some ((((((aF .eql v2.2 0)&&(aF .eql v2.1 2))&&(aF .eql OV 0))&&(aF .eql v12.2.2.2.2.2 0))&&(aF .eql v13.2.2.2.2.2 21))&&v14))
def AQ (N:Nat) (x0:Str) (s1:Int):Option (Int ⊕ (Unit ⊕ Bool)) :=
  bif (aF .lss s1 (List.length x0:Int)) then ((idx x0 s1).bind fun v2=>bif ((!(((aF .geq ((UInt8.toNat v2:Nat):Int) 97)&&(aF .leq ((UInt8.toNat v2:Nat):Int) 122))||((aF .geq ((UInt8.toNat v2:Nat):Int) 65)&&(aF .leq ((UInt8.toNat v2:Nat):Int) 90))))&&((aF .eql s1 0)||((aF .neq ((UInt8.toNat v2:Nat):Int) 45)&&((aF .lss ((UInt8.toNat v2:Nat):Int) 48)||(aF .gtr ((UInt8.toNat v2:Nat):Int) 57))))) then (some (.inr (Sum.inr false))) else (some (.inl (IntKind.i64.wrap (s1+1))))) else (some (.inr (Sum.inl ())))
def vP (N:Nat) (x0:Str):Option (Bool) :=
  bif ((aF .lss (List.length x0:Int) 1)||(aF .gtr (List.length x0:Int) 12)) then (some false) else ((dU (AQ N x0) N 0).bind fun o5=>Sum.elim (fun l7=>some true) (fun r8=>some r8) o5)
def wO (N:Nat) (x0:GPermitPlan) (x1:Str) (s1:Int):Option (Int ⊕ (Unit ⊕ Int)) :=
  bif (aF .lss s1 (List.length x0.bG:Int)) then ((idx x0.bG s1).bind fun v2=>bif (yK .eql v2.Name x1) then (some (.inr (Sum.inr s1))) else (some (.inl (IntKind.i64.wrap (s1+1))))) else (some (.inr (Sum.inl ())))
def lG (N:Nat) (x0:GPermitPlan) (x1:Str):Option (Int) :=
  (dU (wO N x0 x1) N 0).bind fun o5=>Sum.elim (fun l7=>some (-1)) (fun r8=>some r8) o5
def wP (N:Nat) (x0:GPermitPlan) (x1:Int) (x2:Str):Option (Bool) :=
  (lG N x0 x2).bind fun v1=>some ((aF .geq v1 0)&&(aF .lss v1 x1))
def pG (N:Nat) (x0:GPermitPlan) (s15:Int) (s16:Int):Option (Int ⊕ (Unit ⊕ Int)) :=
  (idx x0.bG s15).bind fun v17=>bif (aF .lss s16 (List.length v17.Next:Int)) then ((idx x0.bG s15).bind fun v18=>(idx v18.Next s16).bind fun v19=>(lG N x0 v19).bind fun v20=>bif (aF .lss v20 0) then (some (.inr (Sum.inr 6))) else ((idx x0.bG s15).bind fun v21=>(idx v21.Next s16).bind fun v22=>(idx x0.bG s15).bind fun v23=>bif (yK .eql v22 v23.Name) then (some (.inr (Sum.inr 3))) else (some (.inl (IntKind.i64.wrap (s16+1)))))) else (some (.inr (Sum.inl ())))
def pF (N:Nat) (x0:GPermitPlan) (s15:Int):Option (Int ⊕ (Unit ⊕ Int)) :=
  bif (aF .lss s15 (List.length x0.bG:Int)) then ((dU (pG N x0 s15) N 0).bind fun LW=>Sum.elim (fun l29=>some (.inl (IntKind.i64.wrap (s15+1)))) (fun r30=>some (.inr (Sum.inr r30))) LW) else (some (.inr (Sum.inl ())))
def pz (N:Nat) (x0:GPermitPlan) (s1:Int):Option (Int ⊕ (Unit ⊕ Int)) :=
  bif (aF .lss s1 (List.length x0.bG:Int)) then ((idx x0.bG s1).bind fun v2=>(vP N v2.Name).bind fun v3=>bif (!v3) then (some (.inr (Sum.inr 4))) else ((idx x0.bG s1).bind fun v4=>(wP N x0 s1 v4.Name).bind fun v5=>bif v5 then (some (.inr (Sum.inr 5))) else ((idx x0.bG s1).bind fun v6=>bif (aF .gtr (List.length v6.Next:Int) 30) then (some (.inr (Sum.inr 8))) else (some (.inl (IntKind.i64.wrap (s1+1))))))) else (some (.inr (Sum.inl ())))
def tY (N:Nat) (x0:GPermitPlan):Option (Int) :=
  (dU (pz N x0) N 0).bind fun o11=>Sum.elim (fun l13=>(dU (pF N x0) N 0).bind fun o33=>Sum.elim (fun l35=>some 0) (fun r36=>some r36) o33) (fun r14=>some r14) o11
def y9 (N:Nat) (x0:Int):Option (Bool) :=
  some ((aF .geq x0 0)&&(aF .leq x0 5))
def vg (N:Nat) (x0:GPermitPlan) (x1:Str) (s1:Int):Option (Int ⊕ (Unit ⊕ Int)) :=
  bif (aF .lss s1 (List.length x0.aj:Int)) then ((idx x0.aj s1).bind fun v2=>bif (yK .eql v2.Name x1) then (some (.inr (Sum.inr s1))) else (some (.inl (IntKind.i64.wrap (s1+1))))) else (some (.inr (Sum.inl ())))
def qf (N:Nat) (x0:GPermitPlan) (x1:Str):Option (Int) :=
  (dU (vg N x0 x1) N 0).bind fun o5=>Sum.elim (fun l7=>some (-1)) (fun r8=>some r8) o5
def qE (N:Nat) (x0:GPermitPlan) (v29:aG) (s30:Int):Option (Int ⊕ (Unit ⊕ Int)) :=
  bif (aF .lss s30 (List.length v29.Locks:Int)) then ((idx v29.Locks s30).bind fun v31=>(qf N x0 v31).bind fun v32=>bif (aF .lss v32 0) then (some (.inr (Sum.inr 6))) else ((idx x0.aj v32).bind fun v33=>bif ((aF .neq v33.Kind 5)||(aF .eql v29.Kind 5)) then (some (.inr (Sum.inr 3))) else (some (.inl (IntKind.i64.wrap (s30+1)))))) else (some (.inr (Sum.inl ())))
def qC (N:Nat) (x0:GPermitPlan) (s28:Int):Option (Int ⊕ (Unit ⊕ Int)) :=
  bif (aF .lss s28 (List.length x0.aj:Int)) then ((idx x0.aj s28).bind fun v29=>(dU (qE N x0 v29) N 0).bind fun o37=>Sum.elim (fun l39=>some (.inl (IntKind.i64.wrap (s28+1)))) (fun r40=>some (.inr (Sum.inr r40))) o37) else (some (.inr (Sum.inl ())))
def qB (N:Nat) (x0:GPermitPlan) (s12:Int):Option (Int ⊕ (Unit ⊕ Int)) :=
  bif (aF .lss s12 (List.length x0.aj:Int)) then ((idx x0.aj s12).bind fun v13=>(vP N v13.Name).bind fun v14=>bif (!v14) then (some (.inr (Sum.inr 4))) else ((qf N x0 v13.Name).bind fun v15=>bif (aF .lss v15 s12) then (some (.inr (Sum.inr 5))) else ((y9 N v13.Kind).bind fun v16=>bif ((((!v16)||(aF .lss v13.From 0))||(aF .geq v13.From v13.To))||(aF .gtr v13.To 1000000)) then (some (.inr (Sum.inr 2))) else ((lG N x0 v13.Space).bind fun v17=>bif (aF .lss v17 0) then (some (.inr (Sum.inr 6))) else (bif (aF .gtr (List.length v13.Locks:Int) 10) then (some (.inr (Sum.inr 8))) else (some (.inl (IntKind.i64.wrap (s12+1))))))))) else (some (.inr (Sum.inl ())))
def uZ (N:Nat) (x0:GPermitPlan) (s2:Int):Option (Int ⊕ (Unit ⊕ Int)) :=
  bif (aF .lss s2 (List.length x0.dR:Int)) then ((idx x0.dR s2).bind fun v3=>(y9 N v3.A).bind fun v4=>(bif (!(!v4)) then (y9 N v3.B) else some false).bind fun v5=>bif ((((!v4)||(!v5))||(aF .lss v3.Reach 0))||(aF .gtr v3.Reach 2)) then (some (.inr (Sum.inr 2))) else (some (.inl (IntKind.i64.wrap (s2+1))))) else (some (.inr (Sum.inl ())))
def sO (N:Nat) (x0:GPermitPlan):Option (Int) :=
  bif (((aF .gtr (List.length x0.bG:Int) 30)||(aF .gtr (List.length x0.dR:Int) 30))||(aF .gtr (List.length x0.aj:Int) 20)) then (some 8) else (bif ((aF .lss x0.fC 1)||(aF .gtr x0.fC 10000)) then (some 2) else ((tY N x0).bind fun v1=>bif (aF .neq v1 0) then (some v1) else ((dU (uZ N x0) N 0).bind fun o8=>Sum.elim (fun l10=>(dU (qB N x0) N 0).bind fun Zm=>Sum.elim (fun l26=>(dU (qC N x0) N 0).bind fun o43=>Sum.elim (fun l45=>some 0) (fun r46=>some r46) o43) (fun r27=>some r27) Zm) (fun r11=>some r11) o8)))
def sJ (N:Nat) (x0:GPermitPlan) (s4:(af×Int)):Option ((af×Int) ⊕ af) :=
  bif (aF .lss s4.2 (List.length x0.aj:Int)) then ((idx x0.aj s4.2).bind fun v5=>(app s4.1.To [v5.To]).bind fun v6=>some (.inl (({ s4.1 with To:=v6 }:af),(IntKind.i64.wrap (s4.2+1))))) else (some (.inr s4.1))
def Bl (N:Nat) (x0:GPermitPlan):Option (af) :=
  (mk 0 (List.length x0.aj:Int) (List.length x0.aj:Int)).bind fun v1=>(mk [] (List.length x0.aj:Int) (List.length x0.aj:Int)).bind fun v2=>(mk (⟨false,0,0,0⟩:dL) (List.length x0.bG:Int) (List.length x0.bG:Int)).bind fun v3=>(dU (sJ N x0) N ((⟨x0,0,v1,v2,[],v3,[]⟩:af),0)).bind fun o8=>some o8
def kQ (N:Nat) (x0:Int):Option (aO) :=
  some (⟨x0,[]⟩:aO)
def rG (N:Nat) (x0:(List Int)):Option ((List Int)) :=
  (app ([]:(List Int)) x0).bind fun v1=>some v1
def kK (N:Nat) (x0:af):Option (af) :=
  (rG N x0.bH).bind fun v1=>(app ([]:(List Str)) (({ x0 with bH:=v1 }:af).By)).bind fun v2=>(rG N (({ ({ x0 with bH:=v1 }:af) with By:=v2 }:af).To)).bind fun v3=>(app ([]:(List dL)) (({ ({ ({ x0 with bH:=v1 }:af) with By:=v2 }:af) with To:=v3 }:af).Tests)).bind fun v4=>(app ([]:(List eP)) (({ ({ ({ ({ x0 with bH:=v1 }:af) with By:=v2 }:af) with To:=v3 }:af) with Tests:=v4 }:af).nD)).bind fun v5=>some ({ ({ ({ ({ ({ x0 with bH:=v1 }:af) with By:=v2 }:af) with To:=v3 }:af) with Tests:=v4 }:af) with nD:=v5 }:af)
def wL (N:Nat) (x0:dn) (x1:Str) (s1:Int):Option (Int ⊕ (Unit ⊕ Bool)) :=
  bif (aF .lss s1 (List.length x0.Next:Int)) then ((idx x0.Next s1).bind fun v2=>bif (yK .eql v2 x1) then (some (.inr (Sum.inr true))) else (some (.inl (IntKind.i64.wrap (s1+1))))) else (some (.inr (Sum.inl ())))
def yh (N:Nat) (x0:dn) (x1:Str):Option (Bool) :=
  (dU (wL N x0 x1) N 0).bind fun o5=>Sum.elim (fun l7=>some false) (fun r8=>some r8) o5
def lI (N:Nat) (x0:GPermitPlan) (x1:Str) (x2:Str):Option (Int) :=
  bif (yK .eql x1 x2) then (some 0) else ((lG N x0 x1).bind fun v1=>(idx x0.bG v1).bind fun v2=>(yh N v2 x2).bind fun v3=>(bif (!v3) then (lG N x0 x2) else some 0).bind fun v4=>(bif (!v3) then (idx x0.bG v4) else some (⟨[],false,[]⟩:dn)).bind fun v5=>(bif (!v3) then (yh N v5 x1) else some false).bind fun v6=>bif (v3||v6) then (some 1) else (some 2))
def pV (N:Nat) (x0:GPermitPlan) (v1:aG) (s3:((List Int)×Int)):Option (((List Int)×Int) ⊕ (List Int)) :=
  bif ((aF .lss s3.2 (List.length x0.bG:Int))&&(aF .eql v1.Kind 0)) then ((idx x0.bG s3.2).bind fun v4=>(lI N x0 v1.Space v4.Name).bind fun v5=>bif (aF .eql v5 1) then ((app s3.1 [s3.2]).bind fun v6=>some (.inl (v6,(IntKind.i64.wrap (s3.2+1))))) else (some (.inl (s3.1,(IntKind.i64.wrap (s3.2+1)))))) else (some (.inr s3.1))
def wM (N:Nat) (x0:GPermitPlan) (x1:Int):Option ((List Int)) :=
  (idx x0.aj x1).bind fun v1=>bif (((aF .neq v1.Kind 0)&&(aF .neq v1.Kind 1))&&(aF .neq v1.Kind 2)) then (some []) else ((lG N x0 v1.Space).bind fun v2=>(dU (pV N x0 v1) N ([v2],0)).bind fun o9=>some o9)
def rC (N:Nat) (x0:af) (x1:Int) (x2:Bool):Option (Bool) :=
  (idx x0.P.bG x1).bind fun v1=>bif (!v1.dm) then (some true) else ((idx x0.Tests x1).bind fun v2=>bif (((((!v2.Done)||(aF .gtr (IntKind.i64.wrap (x0.Now - v2.At)) x0.P.fC))||(aF .lss v2.nG 195))||(aF .gtr v2.nG 235))||(aF .gtr v2.EY 50)) then (some false) else (some ((!x2)||(aF .leq v2.EY 10))))
def nK (N:Nat) (x0:af) (x1:Int) (v1:(List Int)) (s2:((List Str)×Int)):Option (((List Str)×Int) ⊕ (List Str)) :=
  bif (aF .lss s2.2 (List.length v1:Int)) then ((idx v1 s2.2).bind fun v3=>(idx x0.P.aj x1).bind fun v4=>(rC N x0 v3 (aF .eql v4.Kind 0)).bind fun v5=>bif (!v5) then ((idx v1 s2.2).bind fun v6=>(idx x0.P.bG v6).bind fun v7=>(app s2.1 [v7.Name]).bind fun v8=>some (.inl (v8,(IntKind.i64.wrap (s2.2+1))))) else (some (.inl (s2.1,(IntKind.i64.wrap (s2.2+1)))))) else (some (.inr s2.1))
def pq (N:Nat) (x0:af) (x1:Int):Option ((List Str)) :=
  (wM N x0.P x1).bind fun v1=>(dU (nK N x0 x1 v1) N ([],0)).bind fun o11=>some o11
def ni (N:Nat) (x0:af) (v1:aG) (s2:((List Str)×Int)):Option (((List Str)×Int) ⊕ (List Str)) :=
  bif (aF .lss s2.2 (List.length v1.Locks:Int)) then ((idx v1.Locks s2.2).bind fun v3=>(qf N x0.P v3).bind fun v4=>(idx x0.bH v4).bind fun v5=>bif (aF .neq v5 2) then ((idx v1.Locks s2.2).bind fun v6=>(app s2.1 [v6]).bind fun v7=>some (.inl (v7,(IntKind.i64.wrap (s2.2+1))))) else (some (.inl (s2.1,(IntKind.i64.wrap (s2.2+1)))))) else (some (.inr s2.1))
def oD (N:Nat) (x0:af) (x1:Int):Option ((List Str)) :=
  (idx x0.P.aj x1).bind fun v1=>(dU (ni N x0 v1) N ([],0)).bind fun Q8=>some Q8
def lF (N:Nat) (v1:af) (s16:(Bool×Int×(List Int))):Option ((Bool×Int×(List Int)) ⊕ (Bool×(List Int))) :=
  bif (aF .lss s16.2.1 (List.length s16.2.2:Int)) then ((idx s16.2.2 s16.2.1).bind fun v17=>(bif (aF .eql v17 2) then (pq N ({ v1 with bH:=s16.2.2 }:af) s16.2.1) else some []).bind fun v18=>(bif (aF .eql v17 2) then (oD N ({ v1 with bH:=s16.2.2 }:af) s16.2.1) else some []).bind fun v19=>bif ((aF .eql v17 2)&&(aF .gtr (IntKind.i64.wrap ((List.length v18:Int)+(List.length v19:Int))) 0)) then ((idx s16.2.2 s16.2.1).bind fun v20=>some (.inl (true,(IntKind.i64.wrap (s16.2.1+1)),(List.set s16.2.2 (Int.toNat s16.2.1) 3)))) else (some (.inl (s16.1,(IntKind.i64.wrap (s16.2.1+1)),s16.2.2)))) else (some (.inr (s16.1,s16.2.2)))
def mF (N:Nat) (v1:af) (s15:(Bool×(List Int))):Option ((Bool×(List Int)) ⊕ (List Int)) :=
  bif s15.1 then ((dU (lF N v1) N (false,0,s15.2)).bind fun o23=>some (.inl (o23.1,o23.2))) else (some (.inr s15.2))
def lD (N:Nat) (v1:af) (s7:(Int×(List Int))):Option ((Int×(List Int)) ⊕ (List Int)) :=
  bif (aF .lss s7.1 (List.length s7.2:Int)) then ((idx s7.2 s7.1).bind fun v8=>(bif (aF .leq v8 3) then (idx v1.To s7.1) else some 0).bind fun v9=>bif ((aF .leq v8 3)&&(aF .leq v9 v1.Now)) then ((idx s7.2 s7.1).bind fun v10=>some (.inl ((IntKind.i64.wrap (s7.1+1)),(List.set s7.2 (Int.toNat s7.1) 6)))) else (some (.inl ((IntKind.i64.wrap (s7.1+1)),s7.2)))) else (some (.inr s7.2))
def og (N:Nat) (x0:af):Option (af) :=
  (kK N x0).bind fun v1=>(dU (lD N v1) N (0,v1.bH)).bind fun TI=>(dU (mF N v1) N (true,TI)).bind fun LW=>some ({ v1 with bH:=LW }:af)
def qA (N:Nat) (x0:af) (x1:Str) (s1:Int):Option (Int ⊕ (Unit ⊕ Int)) :=
  bif (aF .lss s1 (List.length x0.nD:Int)) then ((idx x0.nD s1).bind fun v2=>bif (yK .eql v2.Name x1) then (some (.inr (Sum.inr s1))) else (some (.inl (IntKind.i64.wrap (s1+1))))) else (some (.inr (Sum.inl ())))
def qy (N:Nat) (x0:af) (x1:Str):Option (Int) :=
  (dU (qA N x0 x1) N 0).bind fun o5=>Sum.elim (fun l7=>some (-1)) (fun r8=>some r8) o5
def mM (N:Nat) (x0:af) (x1:Str) (x2:Int) (s1:Int):Option (Int ⊕ (Unit ⊕ Bool)) :=
  bif (aF .lss s1 (List.length x0.bH:Int)) then ((idx x0.P.aj s1).bind fun v2=>(bif (aF .neq s1 x2) then (idx x0.bH s1) else some 0).bind fun v3=>bif ((((aF .neq s1 x2)&&(aF .eql v3 2))&&(aF .eql v2.Kind 1))&&(yK .eql v2.Space x1)) then (some (.inr (Sum.inr true))) else (some (.inl (IntKind.i64.wrap (s1+1))))) else (some (.inr (Sum.inl ())))
def lC (N:Nat) (x0:af) (x1:Str) (x2:Int):Option (Bool) :=
  (dU (mM N x0 x1 x2) N 0).bind fun o6=>Sum.elim (fun l8=>some false) (fun r9=>some r9) o6
def kW (N:Nat) (x0:af) (x1:GEvent) (s29:Int):Option (Int ⊕ Int) :=
  (bif (aF .lss s29 (List.length x0.nD:Int)) then (idx x0.nD s29) else some (⟨[],[]⟩:eP)).bind fun v30=>bif ((aF .lss s29 (List.length x0.nD:Int))&&(yK .lss v30.Name x1.Person)) then (some (.inl (IntKind.i64.wrap (s29+1)))) else (some (.inr s29))
def kV (N:Nat) (x0:af) (x1:GEvent) (s20:((List Str)×Int)):Option (((List Str)×Int) ⊕ (List Str)) :=
  bif (aF .lss s20.2 (List.length x0.bH:Int)) then ((idx x0.P.aj s20.2).bind fun v21=>(idx x0.bH s20.2).bind fun v22=>(bif ((aF .eql v22 2)&&(aF .eql v21.Kind 3)) then (lI N x0.P v21.Space x1.Space) else some 0).bind fun v23=>bif (((aF .eql v22 2)&&(aF .eql v21.Kind 3))&&(aF .leq v23 1)) then ((app s20.1 [v21.Name]).bind fun v24=>some (.inl (v24,(IntKind.i64.wrap (s20.2+1))))) else (some (.inl (s20.1,(IntKind.i64.wrap (s20.2+1)))))) else (some (.inr s20.1))
def iY (N:Nat) (x0:af) (x1:GEvent) (s44:(Int×(List Int))):Option ((Int×(List Int)) ⊕ (List Int)) :=
  bif (aF .lss s44.1 (List.length s44.2:Int)) then ((idx x0.P.aj s44.1).bind fun v45=>(idx s44.2 s44.1).bind fun v46=>(bif ((aF .eql v46 2)&&(aF .neq v45.Kind 5)) then (lI N x0.P v45.Space x1.Space) else some 0).bind fun v47=>bif (((aF .eql v46 2)&&(aF .neq v45.Kind 5))&&(aF .leq v47 1)) then ((idx s44.2 s44.1).bind fun v48=>some (.inl ((IntKind.i64.wrap (s44.1+1)),(List.set s44.2 (Int.toNat s44.1) 3)))) else (some (.inl ((IntKind.i64.wrap (s44.1+1)),s44.2)))) else (some (.inr s44.2))
def iG (N:Nat) (x0:af) (x1:GEvent):Option (af×aO) :=
  (bif ((aF .eql x1.Op 8)||(aF .eql x1.Op 9)) then (vP N x1.Person) else some false).bind fun v1=>bif (((aF .eql x1.Op 8)||(aF .eql x1.Op 9))&&(!v1)) then ((kQ N 4).bind fun v2=>some (x0,v2)) else (bif (aF .eql x1.Op 9) then ((qy N x0 x1.Person).bind fun v3=>bif (aF .lss v3 0) then ((kQ N 6).bind fun v4=>some (x0,v4)) else ((L9 x0.nD 0 v3).bind fun v5=>(app ([]:(List eP)) v5).bind fun v6=>(L9 x0.nD (IntKind.i64.wrap (v3+1)) (List.length x0.nD:Int)).bind fun v7=>(app v6 v7).bind fun v8=>some (({ ({ x0 with nD:=v8 }:af) with bH:=x0.bH,By:=x0.By,To:=x0.To,Tests:=x0.Tests }:af),(⟨0,[]⟩:aO)))) else ((lG N x0.P x1.Space).bind fun v10=>bif (aF .lss v10 0) then ((kQ N 6).bind fun v11=>some (x0,v11)) else (bif (aF .eql x1.Op 7) then (bif ((((aF .lss x1.nG 0)||(aF .gtr x1.nG 1000))||(aF .lss x1.EY 0))||(aF .gtr x1.EY 1000)) then ((kQ N 2).bind fun v12=>some (x0,v12)) else ((idx x0.Tests v10).bind fun v13=>some (({ x0 with Tests:=(List.set x0.Tests (Int.toNat v10) (⟨true,x0.Now,x1.nG,x1.EY⟩:dL)) }:af),(⟨0,[]⟩:aO)))) else (bif (aF .eql x1.Op 8) then ((qy N x0 x1.Person).bind fun v15=>bif (aF .geq v15 0) then ((kQ N 18).bind fun v16=>some (x0,v16)) else ((idx x0.P.bG v10).bind fun v17=>(bif v17.dm then (lC N x0 x1.Space (-1)) else some false).bind fun v18=>bif (v17.dm&&(!v18)) then ((kQ N 21).bind fun v19=>some (x0,v19)) else ((dU (kV N x0 x1) N ([],0)).bind fun LW=>bif (aF .gtr (List.length LW:Int) 0) then (some (x0,(⟨17,LW⟩:aO))) else ((dU (kW N x0 x1) N 0).bind fun o32=>(L9 x0.nD 0 o32).bind fun v34=>(app ([]:(List eP)) v34).bind fun v35=>(app v35 [(⟨x1.Person,x1.Space⟩:eP)]).bind fun v36=>(L9 x0.nD o32 (List.length x0.nD:Int)).bind fun v37=>(app v36 v37).bind fun v38=>some (({ ({ x0 with nD:=v38 }:af) with bH:=x0.bH,By:=x0.By,To:=x0.To,Tests:=x0.Tests }:af),(⟨0,[]⟩:aO)))))) else (bif (aF .eql x1.Op 10) then ((dU (iY N x0 x1) N (0,x0.bH)).bind fun Xk=>some (({ x0 with bH:=Xk }:af),(⟨0,[]⟩:aO))) else (some (x0,(⟨0,[]⟩:aO))))))))
def xR (N:Nat) (x0:Int) (x1:Int):Option (Bool) :=
  bif (aF .eql x0 1) then (some (aF .eql x1 0)) else (bif (aF .eql x0 2) then (some (aF .eql x1 1)) else (bif (aF .eql x0 3) then (some (aF .eql x1 2)) else (bif (aF .eql x0 4) then (some (aF .eql x1 3)) else (bif (aF .eql x0 5) then (some ((aF .eql x1 2)||(aF .eql x1 3))) else (bif (aF .eql x0 6) then (some ((aF .eql x1 0)||(aF .eql x1 1))) else (some (((aF .eql x1 1)||(aF .eql x1 2))||(aF .eql x1 3))))))))
def tV (N:Nat) (x0:GPermitPlan) (v1:aG) (v2:aG) (v3:Int) (s4:Int):Option (Int ⊕ (Unit ⊕ Bool)) :=
  bif (aF .lss s4 (List.length x0.dR:Int)) then ((idx x0.dR s4).bind fun v5=>bif ((((aF .eql v5.A v1.Kind)&&(aF .eql v5.B v2.Kind))||((aF .eql v5.A v2.Kind)&&(aF .eql v5.B v1.Kind)))&&(aF .leq v3 v5.Reach)) then (some (.inr (Sum.inr true))) else (some (.inl (IntKind.i64.wrap (s4+1))))) else (some (.inr (Sum.inl ())))
def uy (N:Nat) (x0:GPermitPlan) (x1:Int) (x2:Int):Option (Bool) :=
  bif (aF .eql x1 x2) then (some false) else ((idx x0.aj x1).bind fun v1=>(idx x0.aj x2).bind fun v2=>(lI N x0 v1.Space v2.Space).bind fun v3=>(dU (tV N x0 v1 v2 v3) N 0).bind fun o8=>Sum.elim (fun l10=>some false) (fun r11=>some r11) o8)
def nU (N:Nat) (x0:af) (x1:Str) (x2:Int) (s1:((List Str)×Int)):Option (((List Str)×Int) ⊕ (List Str)) :=
  bif (aF .lss s1.2 (List.length x0.nD:Int)) then ((idx x0.nD s1.2).bind fun v2=>(lI N x0.P v2.Space x1).bind fun v3=>bif (aF .leq v3 x2) then ((idx x0.nD s1.2).bind fun v4=>(app s1.1 [v4.Name]).bind fun v5=>some (.inl (v5,(IntKind.i64.wrap (s1.2+1))))) else (some (.inl (s1.1,(IntKind.i64.wrap (s1.2+1)))))) else (some (.inr s1.1))
def mX (N:Nat) (x0:af) (x1:Str) (x2:Int):Option ((List Str)) :=
  (dU (nU N x0 x1 x2) N ([],0)).bind fun o8=>some o8
def lZ (N:Nat) (x0:af) (x1:Int) (s11:((List Str)×Int)):Option (((List Str)×Int) ⊕ (List Str)) :=
  bif (aF .lss s11.2 (List.length x0.bH:Int)) then ((idx x0.bH s11.2).bind fun v12=>(bif (aF .eql v12 2) then (uy N x0.P x1 s11.2) else some false).bind fun v13=>bif ((aF .eql v12 2)&&v13) then ((idx x0.P.aj s11.2).bind fun v14=>(app s11.1 [v14.Name]).bind fun v15=>some (.inl (v15,(IntKind.i64.wrap (s11.2+1))))) else (some (.inl (s11.1,(IntKind.i64.wrap (s11.2+1)))))) else (some (.inr s11.1))
def oZ (N:Nat) (x0:af) (x1:Int):Option ((List bM)) :=
  (idx x0.P.aj x1).bind fun v1=>((bif (aF .lss x0.Now v1.From) then ((app [] [(⟨2,[]⟩:bM)]).bind fun v2=>some v2) else (some [])):Option (List bM)).bind fun o4=>(((oD N x0 x1).bind fun v6=>bif (aF .gtr (List.length v6:Int) 0) then ((app o4 [(⟨18,v6⟩:bM)]).bind fun v7=>some v7) else (some o4)):Option (List bM)).bind fun o9=>(dU (lZ N x0 x1) N ([],0)).bind fun Zg=>((bif (aF .gtr (List.length Zg:Int) 0) then ((app o9 [(⟨20,Zg⟩:bM)]).bind fun v20=>some v20) else (some o9)):Option (List bM)).bind fun Zh=>(((pq N x0 x1).bind fun v24=>bif (aF .gtr (List.length v24:Int) 0) then ((app Zh [(⟨21,v24⟩:bM)]).bind fun v25=>some v25) else (some Zh)):Option (List bM)).bind fun LW=>(mX N x0 v1.Space 1).bind fun v29=>bif ((aF .eql v1.Kind 3)&&(aF .gtr (List.length v29:Int) 0)) then ((app LW [(⟨17,v29⟩:bM)]).bind fun v30=>some v30) else (some LW)
def kZ (N:Nat) (v1:af) (l17:(af×aO×(List Int)×(List Str)×(List Int)×(List dL))) (v26:aG) (QV:((List Str)×Int)) (Xm:((List Str)×Int)):Option (((List Str)×Int) ⊕ (List Str)) :=
  (idx v1.P.aj QV.2).bind fun v43=>bif (aF .lss Xm.2 (List.length v43.Locks:Int)) then ((idx l17.2.2.1 QV.2).bind fun v44=>(bif (aF .eql v44 2) then (idx v1.P.aj QV.2) else some (⟨[],0,[],0,0,[]⟩:aG)).bind fun v45=>(bif (aF .eql v44 2) then (idx v45.Locks Xm.2) else some []).bind fun v46=>bif ((aF .eql v44 2)&&(yK .eql v46 v26.Name)) then ((idx v1.P.aj QV.2).bind fun v47=>(app Xm.1 [v47.Name]).bind fun v48=>some (.inr v48)) else (some (.inl (Xm.1,(IntKind.i64.wrap (Xm.2+1)))))) else (some (.inr Xm.1))
def mD (N:Nat) (v1:af) (l17:(af×aO×(List Int)×(List Str)×(List Int)×(List dL))) (v26:aG) (QV:((List Str)×Int)):Option (((List Str)×Int) ⊕ (List Str)) :=
  bif (aF .lss QV.2 (List.length l17.2.2.1:Int)) then ((dU (kZ N v1 l17 v26 QV) N (QV.1,0)).bind fun Xk=>some (.inl (Xk,(IntKind.i64.wrap (QV.2+1))))) else (some (.inr QV.1))
def tK (N:Nat) (x0:af) (x1:GEvent):Option (af×aO) :=
  (kK N x0).bind fun v1=>((bif (aF .eql x1.Op 0) then (some (Sum.inr (v1,(⟨0,[]⟩:aO)))) else (((bif (aF .eql x1.Op 7) then (some (aF .eql x1.Op 7)) else (bif (aF .eql x1.Op 8) then (some (aF .eql x1.Op 8)) else (bif (aF .eql x1.Op 9) then (some (aF .eql x1.Op 9)) else (some (aF .eql x1.Op 10))))):Option Bool).bind fun Q8=>bif Q8 then ((iG N v1 x1).bind fun v12=>some (Sum.inr (v12.1,v12.2))) else (some (Sum.inl ((⟨(⟨[],[],[],0⟩:GPermitPlan),0,[],[],[],[],[]⟩:af),(⟨0,[]⟩:aO),v1.bH,v1.By,v1.To,v1.Tests))))):Option ((af×aO×(List Int)×(List Str)×(List Int)×(List dL)) ⊕ (af×aO))).bind fun QU=>Sum.elim (fun l17=>(qf N v1.P x1.Name).bind fun v19=>bif (aF .lss v19 0) then ((kQ N 6).bind fun v20=>some (({ v1 with bH:=l17.2.2.1,By:=l17.2.2.2.1,To:=l17.2.2.2.2.1,Tests:=l17.2.2.2.2.2 }:af),v20)) else ((idx l17.2.2.1 v19).bind fun v21=>(xR N x1.Op v21).bind fun v22=>bif (!v22) then ((kQ N 18).bind fun v23=>some (({ v1 with bH:=l17.2.2.1,By:=l17.2.2.2.1,To:=l17.2.2.2.2.1,Tests:=l17.2.2.2.2.2 }:af),v23)) else ((bif ((((aF .eql x1.Op 1)||(aF .eql x1.Op 2))||(aF .eql x1.Op 4))||(aF .eql x1.Op 11)) then (vP N x1.Person) else some false).bind fun v24=>bif (((((aF .eql x1.Op 1)||(aF .eql x1.Op 2))||(aF .eql x1.Op 4))||(aF .eql x1.Op 11))&&(!v24)) then ((kQ N 4).bind fun v25=>some (({ v1 with bH:=l17.2.2.1,By:=l17.2.2.2.1,To:=l17.2.2.2.2.1,Tests:=l17.2.2.2.2.2 }:af),v25)) else ((idx v1.P.aj v19).bind fun v26=>bif (aF .eql x1.Op 1) then ((idx l17.2.2.1 v19).bind fun v27=>(idx l17.2.2.2.1 v19).bind fun v28=>some (({ v1 with bH:=(List.set l17.2.2.1 (Int.toNat v19) 1),By:=(List.set l17.2.2.2.1 (Int.toNat v19) x1.Person),To:=l17.2.2.2.2.1,Tests:=l17.2.2.2.2.2 }:af),(⟨0,[]⟩:aO))) else (((bif (aF .eql x1.Op 2) then (some (aF .eql x1.Op 2)) else (some (aF .eql x1.Op 4))):Option Bool).bind fun o30=>bif o30 then ((idx l17.2.2.2.1 v19).bind fun v32=>bif (yK .eql x1.Person v32) then ((kQ N 26).bind fun v33=>some (({ v1 with bH:=l17.2.2.1,By:=l17.2.2.2.1,To:=l17.2.2.2.2.1,Tests:=l17.2.2.2.2.2 }:af),v33)) else ((oZ N ({ v1 with bH:=l17.2.2.1,By:=l17.2.2.2.1,To:=l17.2.2.2.2.1,Tests:=l17.2.2.2.2.2 }:af) v19).bind fun v34=>bif (aF .gtr (List.length v34:Int) 0) then ((idx v34 0).bind fun v35=>(idx v34 0).bind fun v36=>some (({ v1 with bH:=l17.2.2.1,By:=l17.2.2.2.1,To:=l17.2.2.2.2.1,Tests:=l17.2.2.2.2.2 }:af),(⟨v35.Err,v36.Names⟩:aO))) else ((idx l17.2.2.1 v19).bind fun v37=>some (({ v1 with bH:=(List.set l17.2.2.1 (Int.toNat v19) 2),By:=l17.2.2.2.1,To:=l17.2.2.2.2.1,Tests:=l17.2.2.2.2.2 }:af),(⟨0,[]⟩:aO))))) else (bif (aF .eql x1.Op 3) then ((idx l17.2.2.1 v19).bind fun v40=>some (({ v1 with bH:=(List.set l17.2.2.1 (Int.toNat v19) 3),By:=l17.2.2.2.1,To:=l17.2.2.2.2.1,Tests:=l17.2.2.2.2.2 }:af),(⟨0,[]⟩:aO))) else (bif (aF .eql x1.Op 5) then ((dU (mD N v1 l17 v26) N ([],0)).bind fun o55=>bif ((aF .eql v26.Kind 5)&&(aF .gtr (List.length o55:Int) 0)) then (some (({ v1 with bH:=l17.2.2.1,By:=l17.2.2.2.1,To:=l17.2.2.2.2.1,Tests:=l17.2.2.2.2.2 }:af),(⟨20,o55⟩:aO))) else ((mX N ({ v1 with bH:=l17.2.2.1,By:=l17.2.2.2.1,To:=l17.2.2.2.2.1,Tests:=l17.2.2.2.2.2 }:af) v26.Space 0).bind fun v57=>(bif (aF .eql v26.Kind 1) then (idx l17.2.2.1 v19) else some 0).bind fun v58=>(bif ((aF .eql v26.Kind 1)&&(aF .eql v58 2)) then (lG N v1.P v26.Space) else some 0).bind fun v59=>(bif ((aF .eql v26.Kind 1)&&(aF .eql v58 2)) then (idx v1.P.bG v59) else some (⟨[],false,[]⟩:dn)).bind fun v60=>(bif (((aF .eql v26.Kind 1)&&(aF .eql v58 2))&&v60.dm) then (lC N ({ v1 with bH:=l17.2.2.1,By:=l17.2.2.2.1,To:=l17.2.2.2.2.1,Tests:=l17.2.2.2.2.2 }:af) v26.Space v19) else some false).bind fun v61=>bif (((((aF .eql v26.Kind 1)&&(aF .eql v58 2))&&v60.dm)&&(!v61))&&(aF .gtr (List.length v57:Int) 0)) then (some (({ v1 with bH:=l17.2.2.1,By:=l17.2.2.2.1,To:=l17.2.2.2.2.1,Tests:=l17.2.2.2.2.2 }:af),(⟨21,v57⟩:aO))) else ((idx l17.2.2.1 v19).bind fun v62=>some (({ v1 with bH:=(List.set l17.2.2.1 (Int.toNat v19) 4),By:=l17.2.2.2.1,To:=l17.2.2.2.2.1,Tests:=l17.2.2.2.2.2 }:af),(⟨0,[]⟩:aO))))) else (bif (aF .eql x1.Op 6) then ((idx l17.2.2.1 v19).bind fun v66=>some (({ v1 with bH:=(List.set l17.2.2.1 (Int.toNat v19) 5),By:=l17.2.2.2.1,To:=l17.2.2.2.2.1,Tests:=l17.2.2.2.2.2 }:af),(⟨0,[]⟩:aO))) else (bif (aF .eql x1.Op 11) then ((idx l17.2.2.2.2.1 v19).bind fun v67=>bif ((aF .leq x1.To v67)||(aF .gtr x1.To 1000000)) then ((kQ N 2).bind fun v68=>some (({ v1 with bH:=l17.2.2.1,By:=l17.2.2.2.1,To:=l17.2.2.2.2.1,Tests:=l17.2.2.2.2.2 }:af),v68)) else ((idx l17.2.2.2.2.1 v19).bind fun v69=>some (({ v1 with bH:=l17.2.2.1,By:=l17.2.2.2.1,To:=(List.set l17.2.2.2.2.1 (Int.toNat v19) x1.To),Tests:=l17.2.2.2.2.2 }:af),(⟨0,[]⟩:aO)))) else (some (({ v1 with bH:=l17.2.2.1,By:=l17.2.2.2.1,To:=l17.2.2.2.2.1,Tests:=l17.2.2.2.2.2 }:af),(⟨0,[]⟩:aO)))))))))))) (fun VS=>some (VS.1,VS.2)) QU
def uY (N:Nat) (x0:af) (x1:GEvent):Option (af×aO) :=
  bif ((((aF .lss x1.Op 0)||(aF .gtr x1.Op 11))||(aF .lss x1.At 0))||(aF .gtr x1.At 1000000)) then ((kQ N 2).bind fun v1=>some (x0,v1)) else (bif (aF .lss x1.At x0.Now) then ((kQ N 10).bind fun v2=>some (x0,v2)) else ((kK N x0).bind fun v3=>(og N ({ v3 with Now:=x1.At }:af)).bind fun v4=>(tK N v4 x1).bind fun v5=>bif (aF .neq v5.2.E 0) then (some (v4,v5.2)) else ((og N v5.1).bind fun v6=>some (v6,v5.2))))
def rO (N:Nat) (g0:ai) (aQ:(List (Str×ah))) (aI:(List (Str×ay))) (aK:(List (Str×Str))):Option Int :=
  some g0.now
def oC (N:Nat) (x1:(List GEvent)) (s16:(af×Int×ai×(List (Str×ah))×(List (Str×ay))×(List (Str×Str)))):Option ((af×Int×ai×(List (Str×ah))×(List (Str×ay))×(List (Str×Str))) ⊕ ((ai×(List (Str×ah))×(List (Str×ay))×(List (Str×Str))) ⊕ (Bool×ai×(List (Str×ah))×(List (Str×ay))×(List (Str×Str))))) :=
  bif (aF .lss s16.2.1 (List.length x1:Int)) then ((idx x1 s16.2.1).bind fun v17=>(nI N s16.2.2.1 s16.2.2.2.1 s16.2.2.2.2.1 s16.2.2.2.2.2 v17).bind fun v18=>(idx x1 s16.2.1).bind fun v19=>(uY N s16.1 v19).bind fun v20=>(bif (!(aF .neq v18.2.2.2.2.2 v20.2.E)) then (xI N v18.2.2.2.2.1 v20.2.Names) else some false).bind fun v21=>(bif (!((aF .neq v18.2.2.2.2.2 v20.2.E)||(!v21))) then (rO N v18.1 v18.2.1 v18.2.2.1 v18.2.2.2.1) else some 0).bind fun v22=>bif (((aF .neq v18.2.2.2.2.2 v20.2.E)||(!v21))||(aF .neq v22 v20.1.Now)) then (some (.inr (Sum.inr (false,v18.1,v18.2.1,v18.2.2.1,v18.2.2.2.1)))) else (some (.inl (v20.1,(IntKind.i64.wrap (s16.2.1+1)),v18.1,v18.2.1,v18.2.2.1,v18.2.2.2.1)))) else (some (.inr (Sum.inl (s16.2.2.1,s16.2.2.2.1,s16.2.2.2.2.1,s16.2.2.2.2.2))))
def uV (N:Nat) (x0:GPermitPlan) (x1:(List GEvent)):Option (Bool) :=
  (yu N x0).bind fun v1=>bif (v1||(aF .gtr (List.length x1:Int) 40)) then ((vO N).bind fun v2=>some v2) else ((ru N x0).bind fun v3=>KD v3 (fun OV=>(sO N x0).bind fun v4=>bif (aF .neq v4 0) then ((bif (true&&(aF .eql OV v4)) then (vO N) else some false).bind fun v5=>some ((true&&(aF .eql OV v4))&&v5)) else (some false)) (fun ug OV=>(sO N x0).bind fun v13=>bif (aF .neq v13 0) then ((bif (false&&(aF .eql OV v13)) then (vO N) else some false).bind fun v14=>some ((false&&(aF .eql OV v13))&&v14)) else (bif (false||(aF .neq OV 0)) then (some false) else ((Bl N x0).bind fun v15=>(dU (oC N x1) N (v15,0,ug.1,ug.2.1,ug.2.2.1,ug.2.2.2)).bind fun Zf=>Sum.elim (fun l27=>(vO N).bind fun v29=>some v29) (fun r28=>some r28.1) Zf))))
end
end Go.KB
