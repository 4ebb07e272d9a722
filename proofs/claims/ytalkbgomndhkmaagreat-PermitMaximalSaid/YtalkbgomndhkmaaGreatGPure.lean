/- The functions as plain Lean functions. Printed by a program. No condition. -/
import Derived.Test.YtalkbgomndhkmaaGreatGTypes
import Derived.Test.YtalkbgomndhkmaaGreatKSos
import Derived.Test.YtalkbgomndhkmaaGreatKSg
namespace Go.KB
set_option linter.unusedVariables false
noncomputable section
def mW (N:Nat) (x0:GPermitPlan) (s10:Int):Option (Int ⊕ (Unit ⊕ Bool)) :=
  bif (aO .lss s10 (List.length x0.ay:Int)) then ((idx x0.ay s10).bind fun v11=>(bif (!(aO .gtr (List.length v11.Locks:Int) 20)) then (idx x0.ay s10) else some (⟨[],0,[],0,0,[]⟩:aC)).bind fun v12=>bif ((aO .gtr (List.length v11.Locks:Int) 20)||(aO .gtr (List.length v12.Name:Int) 40)) then (some (.inr (Sum.inr true))) else (some (.inl (IntKind.i64.wrap (s10+1))))) else (some (.inr (Sum.inl ())))
def mV (N:Nat) (x0:GPermitPlan) (s1:Int):Option (Int ⊕ (Unit ⊕ Bool)) :=
  bif (aO .lss s1 (List.length x0.bU:Int)) then ((idx x0.bU s1).bind fun v2=>(bif (!(aO .gtr (List.length v2.Next:Int) 40)) then (idx x0.bU s1) else some (⟨[],false,[]⟩:bW)).bind fun v3=>bif ((aO .gtr (List.length v2.Next:Int) 40)||(aO .gtr (List.length v3.Name:Int) 40)) then (some (.inr (Sum.inr true))) else (some (.inl (IntKind.i64.wrap (s1+1))))) else (some (.inr (Sum.inl ())))
def uK (N:Nat) (x0:GPermitPlan):Option (Bool) :=
  bif (((aO .gtr (List.length x0.bU:Int) 40)||(aO .gtr (List.length x0.cZ:Int) 40))||(aO .gtr (List.length x0.ay:Int) 30)) then (some true) else ((dA (mV N x0) N 0).bind fun o6=>Sum.elim (fun l8=>(dA (mW N x0) N 0).bind fun UG=>Sum.elim (fun l17=>some false) (fun r18=>some r18) UG) (fun r9=>some r9) o6)
def xK (N:Nat) (x0:Str) (s1:Int):Option (Int ⊕ (Unit ⊕ Bool)) :=
  bif (aO .lss s1 (List.length x0:Int)) then ((idx x0 s1).bind fun v2=>bif ((!(((aO .geq ((UInt8.toNat v2:Nat):Int) 97)&&(aO .leq ((UInt8.toNat v2:Nat):Int) 122))||((aO .geq ((UInt8.toNat v2:Nat):Int) 65)&&(aO .leq ((UInt8.toNat v2:Nat):Int) 90))))&&((aO .eql s1 0)||((aO .neq ((UInt8.toNat v2:Nat):Int) 45)&&((aO .lss ((UInt8.toNat v2:Nat):Int) 48)||(aO .gtr ((UInt8.toNat v2:Nat):Int) 57))))) then (some (.inr (Sum.inr false))) else (some (.inl (IntKind.i64.wrap (s1+1))))) else (some (.inr (Sum.inl ())))
def vV (N:Nat) (x0:Str):Option (Bool) :=
  bif ((aO .lss (List.length x0:Int) 1)||(aO .gtr (List.length x0:Int) 12)) then (some false) else ((dA (xK N x0) N 0).bind fun o5=>Sum.elim (fun l7=>some true) (fun r8=>some r8) o5)
def tH (N:Nat) (x0:GPermitPlan) (x1:Str) (s1:Int):Option (Int ⊕ (Unit ⊕ Int)) :=
  bif (aO .lss s1 (List.length x0.bU:Int)) then ((idx x0.bU s1).bind fun v2=>bif (zZ .eql v2.Name x1) then (some (.inr (Sum.inr s1))) else (some (.inl (IntKind.i64.wrap (s1+1))))) else (some (.inr (Sum.inl ())))
def rU (N:Nat) (x0:GPermitPlan) (x1:Str):Option (Int) :=
  (dA (tH N x0 x1) N 0).bind fun o5=>Sum.elim (fun l7=>some (-1)) (fun r8=>some r8) o5
def tJ (N:Nat) (x0:GPermitPlan) (x1:Int) (x2:Str):Option (Bool) :=
  (rU N x0 x2).bind fun v1=>some ((aO .geq v1 0)&&(aO .lss v1 x1))
def lg (N:Nat) (x0:GPermitPlan) (s15:Int) (s16:Int):Option (Int ⊕ (Unit ⊕ Int)) :=
  (idx x0.bU s15).bind fun v17=>bif (aO .lss s16 (List.length v17.Next:Int)) then ((idx x0.bU s15).bind fun v18=>(idx v18.Next s16).bind fun v19=>(rU N x0 v19).bind fun v20=>bif (aO .lss v20 0) then (some (.inr (Sum.inr 6))) else ((idx x0.bU s15).bind fun v21=>(idx v21.Next s16).bind fun v22=>(idx x0.bU s15).bind fun v23=>bif (zZ .eql v22 v23.Name) then (some (.inr (Sum.inr 3))) else (some (.inl (IntKind.i64.wrap (s16+1)))))) else (some (.inr (Sum.inl ())))
def kZ (N:Nat) (x0:GPermitPlan) (s15:Int):Option (Int ⊕ (Unit ⊕ Int)) :=
  bif (aO .lss s15 (List.length x0.bU:Int)) then ((dA (lg N x0 s15) N 0).bind fun o27=>Sum.elim (fun l29=>some (.inl (IntKind.i64.wrap (s15+1)))) (fun r30=>some (.inr (Sum.inr r30))) o27) else (some (.inr (Sum.inl ())))
def kY (N:Nat) (x0:GPermitPlan) (s1:Int):Option (Int ⊕ (Unit ⊕ Int)) :=
  bif (aO .lss s1 (List.length x0.bU:Int)) then ((idx x0.bU s1).bind fun v2=>(vV N v2.Name).bind fun v3=>bif (!v3) then (some (.inr (Sum.inr 4))) else ((idx x0.bU s1).bind fun v4=>(tJ N x0 s1 v4.Name).bind fun v5=>bif v5 then (some (.inr (Sum.inr 5))) else ((idx x0.bU s1).bind fun v6=>bif (aO .gtr (List.length v6.Next:Int) 30) then (some (.inr (Sum.inr 8))) else (some (.inl (IntKind.i64.wrap (s1+1))))))) else (some (.inr (Sum.inl ())))
def pO (N:Nat) (x0:GPermitPlan):Option (Int) :=
  (dA (kY N x0) N 0).bind fun Pv=>Sum.elim (fun l13=>(dA (kZ N x0) N 0).bind fun o33=>Sum.elim (fun l35=>some 0) (fun r36=>some r36) o33) (fun UE=>some UE) Pv
def vG (N:Nat) (x0:Int):Option (Bool) :=
  some ((aO .geq x0 0)&&(aO .leq x0 5))
def rf (N:Nat) (x0:GPermitPlan) (x1:Str) (s1:Int):Option (Int ⊕ (Unit ⊕ Int)) :=
  bif (aO .lss s1 (List.length x0.ay:Int)) then ((idx x0.ay s1).bind fun v2=>bif (zZ .eql v2.Name x1) then (some (.inr (Sum.inr s1))) else (some (.inl (IntKind.i64.wrap (s1+1))))) else (some (.inr (Sum.inl ())))
def tK (N:Nat) (x0:GPermitPlan) (x1:Str):Option (Int) :=
  (dA (rf N x0 x1) N 0).bind fun o5=>Sum.elim (fun l7=>some (-1)) (fun r8=>some r8) o5
def mZ (N:Nat) (x0:GPermitPlan) (v29:aC) (s30:Int):Option (Int ⊕ (Unit ⊕ Int)) :=
  bif (aO .lss s30 (List.length v29.Locks:Int)) then ((idx v29.Locks s30).bind fun v31=>(tK N x0 v31).bind fun v32=>bif (aO .lss v32 0) then (some (.inr (Sum.inr 6))) else ((idx x0.ay v32).bind fun v33=>bif ((aO .neq v33.Kind 5)||(aO .eql v29.Kind 5)) then (some (.inr (Sum.inr 3))) else (some (.inl (IntKind.i64.wrap (s30+1)))))) else (some (.inr (Sum.inl ())))
def mY (N:Nat) (x0:GPermitPlan) (Vq:Int):Option (Int ⊕ (Unit ⊕ Int)) :=
  bif (aO .lss Vq (List.length x0.ay:Int)) then ((idx x0.ay Vq).bind fun v29=>(dA (mZ N x0 v29) N 0).bind fun o37=>Sum.elim (fun l39=>some (.inl (IntKind.i64.wrap (Vq+1)))) (fun r40=>some (.inr (Sum.inr r40))) o37) else (some (.inr (Sum.inl ())))
def mX (N:Nat) (x0:GPermitPlan) (s12:Int):Option (Int ⊕ (Unit ⊕ Int)) :=
  bif (aO .lss s12 (List.length x0.ay:Int)) then ((idx x0.ay s12).bind fun v13=>(vV N v13.Name).bind fun v14=>bif (!v14) then (some (.inr (Sum.inr 4))) else ((tK N x0 v13.Name).bind fun v15=>bif (aO .lss v15 s12) then (some (.inr (Sum.inr 5))) else ((vG N v13.Kind).bind fun v16=>bif ((((!v16)||(aO .lss v13.From 0))||(aO .geq v13.From v13.To))||(aO .gtr v13.To 1000000)) then (some (.inr (Sum.inr 2))) else ((rU N x0 v13.Space).bind fun v17=>bif (aO .lss v17 0) then (some (.inr (Sum.inr 6))) else (bif (aO .gtr (List.length v13.Locks:Int) 10) then (some (.inr (Sum.inr 8))) else (some (.inl (IntKind.i64.wrap (s12+1))))))))) else (some (.inr (Sum.inl ())))
def ru (N:Nat) (x0:GPermitPlan) (s2:Int):Option (Int ⊕ (Unit ⊕ Int)) :=
  bif (aO .lss s2 (List.length x0.cZ:Int)) then ((idx x0.cZ s2).bind fun v3=>(vG N v3.A).bind fun v4=>(bif (!(!v4)) then (vG N v3.B) else some false).bind fun v5=>bif ((((!v4)||(!v5))||(aO .lss v3.Reach 0))||(aO .gtr v3.Reach 2)) then (some (.inr (Sum.inr 2))) else (some (.inl (IntKind.i64.wrap (s2+1))))) else (some (.inr (Sum.inl ())))
def rq (N:Nat) (x0:GPermitPlan):Option (Int) :=
  bif (((aO .gtr (List.length x0.bU:Int) 30)||(aO .gtr (List.length x0.cZ:Int) 30))||(aO .gtr (List.length x0.ay:Int) 20)) then (some 8) else (bif ((aO .lss x0.dU 1)||(aO .gtr x0.dU 10000)) then (some 2) else ((pO N x0).bind fun v1=>bif (aO .neq v1 0) then (some v1) else ((dA (ru N x0) N 0).bind fun o8=>Sum.elim (fun l10=>(dA (mX N x0) N 0).bind fun UH=>Sum.elim (fun l26=>(dA (mY N x0) N 0).bind fun o43=>Sum.elim (fun l45=>some 0) (fun r46=>some r46) o43) (fun r27=>some r27) UH) (fun r11=>some r11) o8)))
def wJ (N:Nat) (x0:GPermitPlan):Option (Bool) :=
  (uK N x0).bind fun v1=>(bif (!v1) then (rq N x0) else some 0).bind fun v2=>some (((((!v1)&&(aO .eql v2 0))&&(aO .leq (List.length x0.bU:Int) 8))&&(aO .leq (List.length x0.ay:Int) 8))&&(aO .leq (List.length x0.cZ:Int) 12))
def xN (N:Nat):Option ((List bG)) :=
  some [(⟨0,2,1⟩:bG),(⟨3,0,1⟩:bG),(⟨3,1,1⟩:bG),(⟨3,2,1⟩:bG),(⟨3,3,1⟩:bG),(⟨4,4,0⟩:bG)]
def yO (N:Nat):Option (GPermitPlan) :=
  (xN N).bind fun v1=>some (⟨[(⟨([100,101,99,107]:Str),false,[([116,97,110,107]:Str)]⟩:bW),(⟨([116,97,110,107]:Str),true,[]⟩:bW),(⟨([104,111,108,100]:Str),true,[([116,97,110,107]:Str)]⟩:bW)],v1,[(⟨([119,101,108,100]:Str),0,([100,101,99,107]:Str),0,600,[]⟩:aC),(⟨([103,111]:Str),1,([116,97,110,107]:Str),0,600,[([112,117,109,112]:Str)]⟩:aC),(⟨([112,97,105,110,116]:Str),2,([104,111,108,100]:Str),0,600,[]⟩:aC),(⟨([112,117,109,112]:Str),5,([116,97,110,107]:Str),0,600,[]⟩:aC)],60⟩:GPermitPlan)
def uz (N:Nat) (x0:Int):Option (Bool) :=
  some (((aO .geq x0 97)&&(aO .leq x0 122))||((aO .geq x0 65)&&(aO .leq x0 90)))
def oK (N:Nat) (x0:Str) (s3:Int):Option (Int ⊕ (Unit ⊕ Bool)) :=
  bif (aO .lss s3 (List.length x0:Int)) then ((idx x0 s3).bind fun v4=>(uz N ((UInt8.toNat v4:Nat):Int)).bind fun v5=>bif (((!v5)&&(aO .neq ((UInt8.toNat v4:Nat):Int) 45))&&((aO .lss ((UInt8.toNat v4:Nat):Int) 48)||(aO .gtr ((UInt8.toNat v4:Nat):Int) 57))) then (some (.inr (Sum.inr false))) else (some (.inl (IntKind.i64.wrap (s3+1))))) else (some (.inr (Sum.inl ())))
def lZ (N:Nat) (x0:Str):Option (Bool) :=
  (bif (!((aO .lss (List.length x0:Int) 1)||(aO .gtr (List.length x0:Int) 12))) then (idx x0 0) else some 0).bind fun v1=>(bif (!((aO .lss (List.length x0:Int) 1)||(aO .gtr (List.length x0:Int) 12))) then (uz N ((UInt8.toNat v1:Nat):Int)) else some false).bind fun v2=>bif (((aO .lss (List.length x0:Int) 1)||(aO .gtr (List.length x0:Int) 12))||(!v2)) then (some false) else ((dA (oK N x0) N 0).bind fun o8=>Sum.elim (fun l10=>some true) (fun r11=>some r11) o8)
def kR (N:Nat) (l10:(List (Str×Bool))) (v13:bW) (s14:Int):Option (Int ⊕ (Unit ⊕ Int)) :=
  bif (aO .lss s14 (List.length v13.Next:Int)) then ((idx v13.Next s14).bind fun v15=>bif (!(gB false l10 v15)) then (some (.inr (Sum.inr 6))) else (bif (zZ .eql v15 v13.Name) then (some (.inr (Sum.inr 3))) else (some (.inl (IntKind.i64.wrap (s14+1)))))) else (some (.inr (Sum.inl ())))
def kQ (N:Nat) (x0:GPermitPlan) (l10:(List (Str×Bool))) (s12:Int):Option (Int ⊕ (Unit ⊕ Int)) :=
  bif (aO .lss s12 (List.length x0.bU:Int)) then ((idx x0.bU s12).bind fun v13=>(dA (kR N l10 v13) N 0).bind fun Uo=>Sum.elim (fun l21=>some (.inl (IntKind.i64.wrap (s12+1)))) (fun r22=>some (.inr (Sum.inr r22))) Uo) else (some (.inr (Sum.inl ())))
def kP (N:Nat) (x0:GPermitPlan) (s1:((List (Str×Bool))×Int)):Option (((List (Str×Bool))×Int) ⊕ ((List (Str×Bool)) ⊕ Int)) :=
  bif (aO .lss s1.2 (List.length x0.bU:Int)) then ((idx x0.bU s1.2).bind fun v2=>(lZ N v2.Name).bind fun v3=>bif (!v3) then (some (.inr (Sum.inr 4))) else (bif (gB false s1.1 v2.Name) then (some (.inr (Sum.inr 5))) else (bif (aO .gtr (List.length v2.Next:Int) 30) then (some (.inr (Sum.inr 8))) else (some (.inl ((pK s1.1 v2.Name true),(IntKind.i64.wrap (s1.2+1)))))))) else (some (.inr (Sum.inl s1.1)))
def oP (N:Nat) (x0:GPermitPlan):Option (Int) :=
  (dA (kP N x0) N (([]:(List (Str×Bool))),0)).bind fun o8=>Sum.elim (fun l10=>(dA (kQ N x0 l10) N 0).bind fun Qh=>Sum.elim (fun l27=>some 0) (fun r28=>some r28) Qh) (fun r11=>some r11) o8
def uM (N:Nat) (x0:Int):Option (Bool) :=
  some ((aO .geq x0 0)&&(aO .leq x0 5))
def qy (N:Nat) (x0:bW) (c0:Str):Option (Bool) :=
  some (zZ .eql x0.Name c0)
def gW (N:Nat) (x0:(List bW)) (x1:(bW→Option Bool)) (s1:Int):Option (Int ⊕ (Unit ⊕ Int)) :=
  bif (aO .lss s1 (List.length x0:Int)) then ((idx x0 s1).bind fun v2=>(x1 v2).bind fun v3=>bif v3 then (some (.inr (Sum.inr s1))) else (some (.inl (IntKind.i64.wrap (s1+1))))) else (some (.inr (Sum.inl ())))
def iK (N:Nat) (x0:(List bW)) (x1:(bW→Option Bool)):Option (Int) :=
  (dA (gW N x0 x1) N 0).bind fun o6=>Sum.elim (fun l8=>some (-1)) (fun r9=>some r9) o6
def iD (N:Nat) (x0:GPermitPlan) (x1:Str):Option (bW×Bool) :=
  (iK N x0.bU (fun y0=>qy N y0 x1)).bind fun v1=>bif (aO .lss v1 0) then (some ((⟨[],false,[]⟩:bW),false)) else ((idx x0.bU v1).bind fun v2=>some (v2,true))
def pR (N:Nat) (x0:aC) (c0:Str):Option (Bool) :=
  some (zZ .eql x0.Name c0)
def gG (N:Nat) (x0:(List aC)) (x1:(aC→Option Bool)) (s1:Int):Option (Int ⊕ (Unit ⊕ Int)) :=
  bif (aO .lss s1 (List.length x0:Int)) then ((idx x0 s1).bind fun v2=>(x1 v2).bind fun v3=>bif v3 then (some (.inr (Sum.inr s1))) else (some (.inl (IntKind.i64.wrap (s1+1))))) else (some (.inr (Sum.inl ())))
def fG (N:Nat) (x0:(List aC)) (x1:(aC→Option Bool)):Option (Int) :=
  (dA (gG N x0 x1) N 0).bind fun o6=>Sum.elim (fun l8=>some (-1)) (fun r9=>some r9) o6
def kN (N:Nat) (x0:GPermitPlan) (x1:Str):Option (aC×Bool) :=
  (fG N x0.ay (fun y0=>pR N y0 x1)).bind fun v1=>bif (aO .lss v1 0) then (some ((⟨[],0,[],0,0,[]⟩:aC),false)) else ((idx x0.ay v1).bind fun v2=>some (v2,true))
def kJ (N:Nat) (x0:GPermitPlan) (v17:aC) (s18:Int):Option (Int ⊕ (Unit ⊕ Int)) :=
  bif (aO .lss s18 (List.length v17.Locks:Int)) then ((idx v17.Locks s18).bind fun v19=>(kN N x0 v19).bind fun v20=>bif (!v20.2) then (some (.inr (Sum.inr 6))) else (bif ((aO .neq v20.1.Kind 5)||(aO .eql v17.Kind 5)) then (some (.inr (Sum.inr 3))) else (some (.inl (IntKind.i64.wrap (s18+1)))))) else (some (.inr (Sum.inl ())))
def kH (N:Nat) (x0:GPermitPlan) (s16:Int):Option (Int ⊕ (Unit ⊕ Int)) :=
  bif (aO .lss s16 (List.length x0.ay:Int)) then ((idx x0.ay s16).bind fun v17=>(dA (kJ N x0 v17) N 0).bind fun UH=>Sum.elim (fun l26=>some (.inl (IntKind.i64.wrap (s16+1)))) (fun r27=>some (.inr (Sum.inr r27))) UH) else (some (.inr (Sum.inl ())))
def kG (N:Nat) (x0:GPermitPlan) (s1:((List (Str×Bool))×Int)):Option (((List (Str×Bool))×Int) ⊕ (Unit ⊕ Int)) :=
  bif (aO .lss s1.2 (List.length x0.ay:Int)) then ((idx x0.ay s1.2).bind fun v2=>(iD N x0 v2.Space).bind fun v3=>(lZ N v2.Name).bind fun v4=>bif (!v4) then (some (.inr (Sum.inr 4))) else (bif (gB false s1.1 v2.Name) then (some (.inr (Sum.inr 5))) else ((uM N v2.Kind).bind fun v5=>bif ((((!v5)||(aO .lss v2.From 0))||(aO .geq v2.From v2.To))||(aO .gtr v2.To 1000000)) then (some (.inr (Sum.inr 2))) else (bif (!v3.2) then (some (.inr (Sum.inr 6))) else (bif (aO .gtr (List.length v2.Locks:Int) 10) then (some (.inr (Sum.inr 8))) else (some (.inl ((pK s1.1 v2.Name true),(IntKind.i64.wrap (s1.2+1)))))))))) else (some (.inr (Sum.inl ())))
def og (N:Nat) (x0:GPermitPlan):Option (Int) :=
  (dA (kG N x0) N (([]:(List (Str×Bool))),0)).bind fun Rj=>Sum.elim (fun l14=>(dA (kH N x0) N 0).bind fun o30=>Sum.elim (fun l32=>some 0) (fun r33=>some r33) o30) (fun r15=>some r15) Rj
def lT (N:Nat) (x0:GPermitPlan) (s2:Int):Option (Int ⊕ (Unit ⊕ Int)) :=
  bif (aO .lss s2 (List.length x0.cZ:Int)) then ((idx x0.cZ s2).bind fun v3=>(uM N v3.A).bind fun v4=>(bif (!(!v4)) then (uM N v3.B) else some false).bind fun v5=>bif ((((!v4)||(!v5))||(aO .lss v3.Reach 0))||(aO .gtr v3.Reach 2)) then (some (.inr (Sum.inr 2))) else (some (.inl (IntKind.i64.wrap (s2+1))))) else (some (.inr (Sum.inl ())))
def kU (N:Nat) (x0:GPermitPlan):Option (Int) :=
  bif (((aO .gtr (List.length x0.bU:Int) 30)||(aO .gtr (List.length x0.cZ:Int) 30))||(aO .gtr (List.length x0.ay:Int) 20)) then (some 8) else (bif ((aO .lss x0.dU 1)||(aO .gtr x0.dU 10000)) then (some 2) else ((oP N x0).bind fun v1=>bif (aO .neq v1 0) then (some v1) else ((dA (lT N x0) N 0).bind fun o8=>Sum.elim (fun l10=>(og N x0).bind fun v12=>some v12) (fun r11=>some r11) o8)))
def ja (N:Nat) (x0:(List Str)) (x1:Str) (s1:Int):Option (Int ⊕ (Unit ⊕ Int)) :=
  bif (aO .lss s1 (List.length x0:Int)) then ((idx x0 s1).bind fun v2=>bif (zZ .eql x1 v2) then (some (.inr (Sum.inr s1))) else (some (.inl (IntKind.i64.wrap (s1+1))))) else (some (.inr (Sum.inl ())))
def mG (N:Nat) (x0:(List Str)) (x1:Str):Option (Int) :=
  (dA (ja N x0 x1) N 0).bind fun o5=>Sum.elim (fun l7=>some (-1)) (fun r8=>some r8) o5
def dY (N:Nat) (x0:(List Str)) (x1:Str):Option (Bool) :=
  (mG N x0 x1).bind fun v1=>some (aO .geq v1 0)
def nJ (N:Nat) (x0:GPermitPlan) (x1:Str) (x2:Str):Option (Int) :=
  (iD N x0 x1).bind fun v1=>(iD N x0 x2).bind fun v2=>bif (zZ .eql x1 x2) then (some 0) else ((dY N v1.1.Next x2).bind fun v3=>(bif (!v3) then (dY N v2.1.Next x1) else some false).bind fun v4=>bif (v3||v4) then (some 1) else (some 2))
def AP (N:Nat) (x0:GPermitPlan) (x1:Str) (x2:Str):Option (Int×Int) :=
  (kU N x0).bind fun v1=>bif (aO .neq v1 0) then (some (0,v1)) else ((iD N x0 x1).bind fun v2=>(iD N x0 x2).bind fun v3=>bif ((!v2.2)||(!v3.2)) then (some (0,6)) else ((nJ N x0 x1 x2).bind fun v4=>some (v4,0)))
def mJ (N:Nat) (x0:(List bW)):Option ((List bW)) :=
  (app ([]:(List bW)) x0).bind fun v1=>some v1
def jU (N:Nat) (x0:(List bG)):Option ((List bG)) :=
  (app ([]:(List bG)) x0).bind fun v1=>some v1
def lK (N:Nat) (x0:(List aC)):Option ((List aC)) :=
  (app ([]:(List aC)) x0).bind fun v1=>some v1
def iR (N:Nat) (x0:(List Str)):Option ((List Str)) :=
  (app ([]:(List Str)) x0).bind fun v1=>some v1
def wB (N:Nat) (v3:(List aC)) (s14:(Int×(List aC))):Option ((Int×(List aC)) ⊕ (List aC)) :=
  bif (aO .lss s14.1 (List.length v3:Int)) then ((idx s14.2 s14.1).bind fun v15=>(iR N v15.Locks).bind fun v16=>(idx s14.2 s14.1).bind fun v17=>some (.inl ((IntKind.i64.wrap (s14.1+1)),(List.set s14.2 (Int.toNat s14.1) ({ v17 with Locks:=v16 }:aC))))) else (some (.inr s14.2))
def wz (N:Nat) (v1:(List bW)) (s7:(Int×(List bW))):Option ((Int×(List bW)) ⊕ (List bW)) :=
  bif (aO .lss s7.1 (List.length v1:Int)) then ((idx s7.2 s7.1).bind fun v8=>(iR N v8.Next).bind fun v9=>(idx s7.2 s7.1).bind fun v10=>some (.inl ((IntKind.i64.wrap (s7.1+1)),(List.set s7.2 (Int.toNat s7.1) ({ v10 with Next:=v9 }:bW))))) else (some (.inr s7.2))
def yM (N:Nat) (x0:GPermitPlan):Option (GPermitPlan) :=
  (mJ N x0.bU).bind fun v1=>(jU N x0.cZ).bind fun v2=>(lK N x0.ay).bind fun v3=>(dA (wz N v1) N (0,v1)).bind fun Rj=>(dA (wB N v3) N (0,v3)).bind fun Uo=>some ({ ({ x0 with cZ:=v2 }:GPermitPlan) with bU:=Rj,ay:=Uo }:GPermitPlan)
def jP (N:Nat) (x0:(List Int)) (x1:Int) (s1:Int):Option (Int ⊕ (Unit ⊕ Int)) :=
  bif (aO .lss s1 (List.length x0:Int)) then ((idx x0 s1).bind fun v2=>bif (aO .eql x1 v2) then (some (.inr (Sum.inr s1))) else (some (.inl (IntKind.i64.wrap (s1+1))))) else (some (.inr (Sum.inl ())))
def pY (N:Nat) (x0:(List Int)) (x1:Int):Option (Int) :=
  (dA (jP N x0 x1) N 0).bind fun o5=>Sum.elim (fun l7=>some (-1)) (fun r8=>some r8) o5
def jR (N:Nat) (x0:(List Int)) (x1:Int):Option (Bool) :=
  (pY N x0 x1).bind fun v1=>some (aO .geq v1 0)
def iJ (N:Nat) (g0:af) (aH:(List (Str×ah))) (aB:(List (Str×ak))) (aG:(List (Str×Str))) (x1:Str) (x2:(List Int)):Option Bool :=
  (jR N x2 ((gB (⟨0,[],0⟩:ah) aH x1).state)).bind fun v1=>some v1
def iF (N:Nat) (g0:af) (aH:(List (Str×ah))) (aB:(List (Str×ak))) (aG:(List (Str×Str))) (x1:Str) (x2:Int):Option (List (Str×ah)) :=
  some (pK aH x1 ({ (gB (⟨0,[],0⟩:ah) aH x1) with state:=x2 }:ah))
def wU (N:Nat) (x0:GPermitPlan) (v1:(bW×Bool)) (s11:((List Str)×Int)):Option (((List Str)×Int) ⊕ (List Str)) :=
  bif (aO .lss s11.2 (List.length x0.bU:Int)) then ((idx x0.bU s11.2).bind fun v12=>(bif v12.lG then (nJ N x0 v12.Name v1.1.Name) else some 0).bind fun v13=>bif (v12.lG&&(aO .eql v13 1)) then ((app s11.1 [v12.Name]).bind fun v14=>some (.inl (v14,(IntKind.i64.wrap (s11.2+1))))) else (some (.inl (s11.1,(IntKind.i64.wrap (s11.2+1)))))) else (some (.inr s11.1))
def zG (N:Nat) (x0:GPermitPlan) (x1:aC):Option ((List Str)) :=
  (iD N x0 x1.Space).bind fun v1=>((((bif (aO .eql x1.Kind 0) then (some (aO .eql x1.Kind 0)) else (bif (aO .eql x1.Kind 1) then (some (aO .eql x1.Kind 1)) else (some (aO .eql x1.Kind 2)))):Option Bool).bind fun o4=>bif o4 then (bif v1.1.lG then ((app [] [v1.1.Name]).bind fun v6=>some v6) else (some [])) else (some [])):Option (List Str)).bind fun o9=>bif (aO .eql x1.Kind 0) then ((dA (wU N x0 v1) N (o9,0)).bind fun UD=>some UD) else (some o9)
def uh (N:Nat) (g0:af) (aH:(List (Str×ah))) (aB:(List (Str×ak))) (aG:(List (Str×Str))) (x1:Str):Option (Bool×Bool) :=
  (iD N g0.plan x1).bind fun v1=>bif (!v1.1.lG) then (some (true,true)) else (some ((((((nD aB x1)&&(aO .leq (IntKind.i64.wrap (g0.now - ((gB (⟨0,0,0⟩:ak) aB x1).at_))) g0.plan.dU))&&(aO .geq ((gB (⟨0,0,0⟩:ak) aB x1).lM) 195))&&(aO .leq ((gB (⟨0,0,0⟩:ak) aB x1).lM) 235))&&(aO .leq ((gB (⟨0,0,0⟩:ak) aB x1).Rk) 50)),((((((nD aB x1)&&(aO .leq (IntKind.i64.wrap (g0.now - ((gB (⟨0,0,0⟩:ak) aB x1).at_))) g0.plan.dU))&&(aO .geq ((gB (⟨0,0,0⟩:ak) aB x1).lM) 195))&&(aO .leq ((gB (⟨0,0,0⟩:ak) aB x1).lM) 235))&&(aO .leq ((gB (⟨0,0,0⟩:ak) aB x1).Rk) 50))&&(aO .leq ((gB (⟨0,0,0⟩:ak) aB x1).Rk) 10))))
def ni (N:Nat) (g0:af) (aH:(List (Str×ah))) (aB:(List (Str×ak))) (aG:(List (Str×Str))) (x0:Str) (c1:aC):Option Bool :=
  (uh N g0 aH aB aG x0).bind fun v1=>bif (aO .eql c1.Kind 0) then (some v1.2) else (some v1.1)
def iG (N:Nat) (g0:af) (aH:(List (Str×ah))) (aB:(List (Str×ak))) (aG:(List (Str×Str))) (x0:(List Str)) (lF:aC) (s1:Int):Option (Int ⊕ (Unit ⊕ Int)) :=
  bif (aO .lss s1 (List.length x0:Int)) then ((idx x0 s1).bind fun v2=>(ni N g0 aH aB aG v2 lF).bind fun v3=>bif v3 then (some (.inr (Sum.inr s1))) else (some (.inl (IntKind.i64.wrap (s1+1))))) else (some (.inr (Sum.inl ())))
def iT (N:Nat) (g0:af) (aH:(List (Str×ah))) (aB:(List (Str×ak))) (aG:(List (Str×Str))) (x0:(List Str)) (lF:aC):Option Int :=
  (dA (iG N g0 aH aB aG x0 lF) N 0).bind fun o6=>Sum.elim (fun l8=>some (-1)) (fun r9=>some r9) o6
def iC (N:Nat) (g0:af) (aH:(List (Str×ah))) (aB:(List (Str×ak))) (aG:(List (Str×Str))) (lF:aC) (s2:((List Str)×Int×Int)):Option (((List Str)×Int×Int) ⊕ ((List Str)×Int)) :=
  bif (aO .lss s2.2.2 (List.length s2.1:Int)) then ((idx s2.1 s2.2.2).bind fun v3=>(ni N g0 aH aB aG v3 lF).bind fun v4=>bif (!v4) then ((idx s2.1 s2.2.1).bind fun v5=>some (.inl ((List.set s2.1 (Int.toNat s2.2.1) v3),(IntKind.i64.wrap (s2.2.1+1)),(IntKind.i64.wrap (s2.2.2+1))))) else (some (.inl (s2.1,s2.2.1,(IntKind.i64.wrap (s2.2.2+1)))))) else (some (.inr (s2.1,s2.2.1)))
def iP (N:Nat) (g0:af) (aH:(List (Str×ah))) (aB:(List (Str×ak))) (aG:(List (Str×Str))) (x0:(List Str)) (lF:aC):Option (List Str) :=
  (iT N g0 aH aB aG x0 lF).bind fun v1=>bif (aO .eql v1 (-1)) then (some x0) else ((dA (iC N g0 aH aB aG lF) N (x0,v1,(IntKind.i64.wrap (v1+1)))).bind fun o8=>(P6 o8.1 o8.2 (List.length o8.1:Int)).bind fun v10=>(bif Nat.beq ((Int.toNat o8.2)+(Int.toNat (List.length o8.1:Int) - Int.toNat o8.2)) (List.length o8.1) then some (List.take (Int.toNat o8.2) o8.1 ++ List.replicate (Int.toNat (List.length o8.1:Int) - Int.toNat o8.2) []) else none).bind fun v11=>(P6 v11 0 o8.2).bind fun v12=>some v12)
def nY (N:Nat) (g0:af) (aH:(List (Str×ah))) (aB:(List (Str×ak))) (aG:(List (Str×Str))) (x1:aC):Option (List Str) :=
  (zG N g0.plan x1).bind fun v1=>(iP N g0 aH aB aG v1 x1).bind fun v2=>some v2
def mF (N:Nat) (g0:af) (aH:(List (Str×ah))) (aB:(List (Str×ak))) (aG:(List (Str×Str))) (x0:Str):Option Bool :=
  (iJ N g0 aH aB aG x0 [2]).bind fun v1=>some v1
def iw (N:Nat) (g0:af) (aH:(List (Str×ah))) (aB:(List (Str×ak))) (aG:(List (Str×Str))) (x0:(List Str)) (s1:Int):Option (Int ⊕ (Unit ⊕ Int)) :=
  bif (aO .lss s1 (List.length x0:Int)) then ((idx x0 s1).bind fun v2=>(mF N g0 aH aB aG v2).bind fun v3=>bif v3 then (some (.inr (Sum.inr s1))) else (some (.inl (IntKind.i64.wrap (s1+1))))) else (some (.inr (Sum.inl ())))
def iO (N:Nat) (g0:af) (aH:(List (Str×ah))) (aB:(List (Str×ak))) (aG:(List (Str×Str))) (x0:(List Str)):Option Int :=
  (dA (iw N g0 aH aB aG x0) N 0).bind fun o6=>Sum.elim (fun l8=>some (-1)) (fun r9=>some r9) o6
def iq (N:Nat) (g0:af) (aH:(List (Str×ah))) (aB:(List (Str×ak))) (aG:(List (Str×Str))) (s2:((List Str)×Int×Int)):Option (((List Str)×Int×Int) ⊕ ((List Str)×Int)) :=
  bif (aO .lss s2.2.2 (List.length s2.1:Int)) then ((idx s2.1 s2.2.2).bind fun v3=>(mF N g0 aH aB aG v3).bind fun v4=>bif (!v4) then ((idx s2.1 s2.2.1).bind fun v5=>some (.inl ((List.set s2.1 (Int.toNat s2.2.1) v3),(IntKind.i64.wrap (s2.2.1+1)),(IntKind.i64.wrap (s2.2.2+1))))) else (some (.inl (s2.1,s2.2.1,(IntKind.i64.wrap (s2.2.2+1)))))) else (some (.inr (s2.1,s2.2.1)))
def iI (N:Nat) (g0:af) (aH:(List (Str×ah))) (aB:(List (Str×ak))) (aG:(List (Str×Str))) (x0:(List Str)):Option (List Str) :=
  (iO N g0 aH aB aG x0).bind fun v1=>bif (aO .eql v1 (-1)) then (some x0) else ((dA (iq N g0 aH aB aG) N (x0,v1,(IntKind.i64.wrap (v1+1)))).bind fun o8=>(P6 o8.1 o8.2 (List.length o8.1:Int)).bind fun v10=>(bif Nat.beq ((Int.toNat o8.2)+(Int.toNat (List.length o8.1:Int) - Int.toNat o8.2)) (List.length o8.1) then some (List.take (Int.toNat o8.2) o8.1 ++ List.replicate (Int.toNat (List.length o8.1:Int) - Int.toNat o8.2) []) else none).bind fun v11=>(P6 v11 0 o8.2).bind fun v12=>some v12)
def nP (N:Nat) (g0:af) (aH:(List (Str×ah))) (aB:(List (Str×ak))) (aG:(List (Str×Str))) (x1:aC):Option (List Str) :=
  (iR N x1.Locks).bind fun v1=>(iI N g0 aH aB aG v1).bind fun v2=>some v2
def pW (N:Nat) (g0:af) (aB:(List (Str×ak))) (aG:(List (Str×Str))) (s10:(Bool×Int×(List (Str×ah)))):Option ((Bool×Int×(List (Str×ah))) ⊕ (Bool×(List (Str×ah)))) :=
  bif (aO .lss s10.2.1 (List.length g0.plan.ay:Int)) then ((idx g0.plan.ay s10.2.1).bind fun v11=>(iJ N g0 s10.2.2 aB aG v11.Name [2]).bind fun v12=>(bif v12 then (nY N g0 s10.2.2 aB aG v11) else some []).bind fun v13=>(bif (v12&&(!(aO .gtr (List.length v13:Int) 0))) then (nP N g0 s10.2.2 aB aG v11) else some []).bind fun v14=>bif (v12&&((aO .gtr (List.length v13:Int) 0)||(aO .gtr (List.length v14:Int) 0))) then ((iF N g0 s10.2.2 aB aG v11.Name 3).bind fun v15=>some (.inl (true,(IntKind.i64.wrap (s10.2.1+1)),v15))) else (some (.inl (s10.1,(IntKind.i64.wrap (s10.2.1+1)),s10.2.2)))) else (some (.inr (s10.1,s10.2.2)))
def pV (N:Nat) (g0:af) (aB:(List (Str×ak))) (aG:(List (Str×Str))) (s9:(Bool×(List (Str×ah)))):Option ((Bool×(List (Str×ah))) ⊕ (List (Str×ah))) :=
  bif s9.1 then ((dA (pW N g0 aB aG) N (false,0,s9.2)).bind fun UB=>some (.inl (UB.1,UB.2))) else (some (.inr s9.2))
def pU (N:Nat) (g0:af) (aB:(List (Str×ak))) (aG:(List (Str×Str))) (s1:(Int×(List (Str×ah)))):Option ((Int×(List (Str×ah))) ⊕ (List (Str×ah))) :=
  bif (aO .lss s1.1 (List.length g0.plan.ay:Int)) then ((idx g0.plan.ay s1.1).bind fun v2=>(iJ N g0 s1.2 aB aG v2.Name [0,1,2,3]).bind fun v3=>bif (v3&&(aO .leq ((gB (⟨0,[],0⟩:ah) s1.2 v2.Name).NU) g0.now)) then ((iF N g0 s1.2 aB aG v2.Name 6).bind fun v4=>some (.inl ((IntKind.i64.wrap (s1.1+1)),v4))) else (some (.inl ((IntKind.i64.wrap (s1.1+1)),s1.2)))) else (some (.inr s1.2))
def lY (N:Nat) (g0:af) (aH:(List (Str×ah))) (aB:(List (Str×ak))) (aG:(List (Str×Str))):Option (List (Str×ah)) :=
  (dA (pU N g0 aB aG) N (0,aH)).bind fun o7=>(dA (pV N g0 aB aG) N (true,o7)).bind fun o22=>some o22
def wR (N:Nat) (x0:GPermitPlan) (s7:(Int×(List (Str×ah)))):Option ((Int×(List (Str×ah))) ⊕ (List (Str×ah))) :=
  bif (aO .lss s7.1 (List.length x0.ay:Int)) then ((idx x0.ay s7.1).bind fun v8=>some (.inl ((IntKind.i64.wrap (s7.1+1)),(pK s7.2 v8.Name (⟨0,[],v8.To⟩:ah))))) else (some (.inr s7.2))
def zB (N:Nat) (x0:GPermitPlan):Option ((Option (af×(List (Str×ah))×(List (Str×ak))×(List (Str×Str))))×(Int)) :=
  (kU N x0).bind fun v1=>bif (aO .neq v1 0) then (some (none,v1)) else ((yM N x0).bind fun v2=>(dA (wR N x0) N (0,([]:(List (Str×ah))))).bind fun Pm=>(lY N (⟨v2,0,[]⟩:af) Pm ([]:(List (Str×ak))) ([]:(List (Str×Str)))).bind fun v12=>some ((some ((⟨v2,0,[]⟩:af),v12,([]:(List (Str×ak))),([]:(List (Str×Str))))),0))
def wS (N:Nat):Option ((List bg)) :=
  some [(⟨([116,105,99,107]:Str),([]:Str),([]:(List Int)),(some 95)⟩:bg),(⟨([97,112,112,114,111,118,101]:Str),([110,112]:Str),[0],(some 96)⟩:bg),(⟨([111,112,101,110]:Str),([110,112]:Str),[1],(some 97)⟩:bg),(⟨([115,117,115,112,101,110,100]:Str),([110]:Str),[2],(some 98)⟩:bg),(⟨([114,101,115,117,109,101]:Str),([110,112]:Str),[3],(some 97)⟩:bg),(⟨([99,108,111,115,101]:Str),([110]:Str),[2,3],(some 99)⟩:bg),(⟨([99,97,110,99,101,108]:Str),([110]:Str),[0,1],(some 100)⟩:bg),(⟨([103,97,115]:Str),([115,111,103]:Str),([]:(List Int)),(some 101)⟩:bg),(⟨([101,110,116,101,114]:Str),([112,115]:Str),([]:(List Int)),(some 102)⟩:bg),(⟨([108,101,97,118,101]:Str),([112]:Str),([]:(List Int)),(some 103)⟩:bg),(⟨([97,108,97,114,109]:Str),([115]:Str),([]:(List Int)),(some 104)⟩:bg),(⟨([101,120,116,101,110,100]:Str),([110,112,116]:Str),[1,2,3],(some 105)⟩:bg)]
def xX (N:Nat) (x0:Int):Option (Bool) :=
  some ((aO .geq x0 0)&&(aO .leq x0 1000000))
def uf (N:Nat) (x0:(Option (af×Value×Value×Value))) (x1:bP):Option ((List Str)×Int) :=
  (wS N).bind fun v1=>bif (Option.isNone x0) then (some ([],1)) else ((bif (!((aO .lss x1.Op 0)||(aO .geq x1.Op (List.length v1:Int)))) then (xX N x1.At) else some false).bind fun v2=>bif (((aO .lss x1.Op 0)||(aO .geq x1.Op (List.length v1:Int)))||(!v2)) then (some ([],2)) else (none))
def yL (N:Nat) (x0:(List Str)) (x1:(List Str)) (s1:Int):Option (Int ⊕ (Unit ⊕ Bool)) :=
  bif (aO .lss s1 (List.length x0:Int)) then ((idx x0 s1).bind fun v2=>(idx x1 s1).bind fun v3=>bif (zZ .neq v2 v3) then (some (.inr (Sum.inr false))) else (some (.inl (IntKind.i64.wrap (s1+1))))) else (some (.inr (Sum.inl ())))
def y9 (N:Nat) (x0:(List Str)) (x1:(List Str)):Option (Bool) :=
  bif (aO .neq (List.length x0:Int) (List.length x1:Int)) then (some false) else ((dA (yL N x0 x1) N 0).bind fun o6=>Sum.elim (fun l8=>some true) (fun r9=>some r9) o6)
def ug (N:Nat) (g0:af) (aH:(List (Str×ah))) (aB:(List (Str×ak))) (aG:(List (Str×Str))) (x1:bP):Option aj :=
  some (⟨[],0⟩:aj)
def jh (N:Nat) (x0:Int) (x1:(List Str)):Option (aj) :=
  some (⟨x1,x0⟩:aj)
def qO (N:Nat) (g0:af) (aH:(List (Str×ah))) (aB:(List (Str×ak))) (aG:(List (Str×Str))) (x1:bP):Option ((List (Str×ah))×aj) :=
  (lZ N x1.Person).bind fun v1=>bif (!v1) then ((jh N 4 ([]:(List Str))).bind fun v2=>some (aH,v2)) else (some ((pK aH x1.Name ({ ({ (gB (⟨0,[],0⟩:ah) aH x1.Name) with state:=1 }:ah) with Hf:=x1.Person }:ah)),(⟨[],0⟩:aj)))
def qP (N:Nat) (g0:af) (aH:(List (Str×ah))) (aB:(List (Str×ak))) (aG:(List (Str×Str))) (x1:aC):Option aC :=
  some x1
def pM (N:Nat) (x0:bG) (c0:Int) (c1:aC) (c2:aC):Option (Bool) :=
  some ((aO .leq c0 x0.Reach)&&(((aO .eql x0.A c1.Kind)&&(aO .eql x0.B c2.Kind))||((aO .eql x0.A c2.Kind)&&(aO .eql x0.B c1.Kind))))
def eY (N:Nat) (x0:(List bG)) (x1:(bG→Option Bool)) (s1:Int):Option (Int ⊕ (Unit ⊕ Int)) :=
  bif (aO .lss s1 (List.length x0:Int)) then ((idx x0 s1).bind fun v2=>(x1 v2).bind fun v3=>bif v3 then (some (.inr (Sum.inr s1))) else (some (.inl (IntKind.i64.wrap (s1+1))))) else (some (.inr (Sum.inl ())))
def fM (N:Nat) (x0:(List bG)) (x1:(bG→Option Bool)):Option (Int) :=
  (dA (eY N x0 x1) N 0).bind fun o6=>Sum.elim (fun l8=>some (-1)) (fun r9=>some r9) o6
def gV (N:Nat) (x0:(List bG)) (x1:(bG→Option Bool)):Option (Bool) :=
  (fM N x0 x1).bind fun v1=>some (aO .geq v1 0)
def oZ (N:Nat) (x0:GPermitPlan) (x1:aC) (x2:aC):Option (Bool) :=
  bif (zZ .eql x1.Name x2.Name) then (some false) else ((nJ N x0 x1.Space x2.Space).bind fun v1=>(gV N x0.cZ (fun y0=>pM N y0 v1 x1 x2)).bind fun v2=>some v2)
def oO (N:Nat) (g0:af) (aH:(List (Str×ah))) (aB:(List (Str×ak))) (aG:(List (Str×Str))) (x0:aC) (c1:aC):Option Bool :=
  (oZ N g0.plan x0 c1).bind fun v1=>some v1
def jI (N:Nat) (g0:af) (aH:(List (Str×ah))) (aB:(List (Str×ak))) (aG:(List (Str×Str))) (lF:aC) (s1:((List Str)×Int)):Option (((List Str)×Int) ⊕ (List Str)) :=
  bif (aO .lss s1.2 (List.length g0.plan.ay:Int)) then ((idx g0.plan.ay s1.2).bind fun v2=>(iJ N g0 aH aB aG v2.Name [2]).bind fun v3=>(bif v3 then (oO N g0 aH aB aG v2 lF) else some false).bind fun v4=>bif (v3&&v4) then ((app s1.1 [v2.Name]).bind fun v5=>some (.inl (v5,(IntKind.i64.wrap (s1.2+1))))) else (some (.inl (s1.1,(IntKind.i64.wrap (s1.2+1)))))) else (some (.inr s1.1))
def jX (N:Nat) (g0:af) (aH:(List (Str×ah))) (aB:(List (Str×ak))) (aG:(List (Str×Str))) (lF:aC):Option (List Str) :=
  (dA (jI N g0 aH aB aG lF) N ([],0)).bind fun o8=>some o8
def nR (N:Nat) (g0:af) (aH:(List (Str×ah))) (aB:(List (Str×ak))) (x0:Str) (c1:aC):Option Bool :=
  (nJ N g0.plan x0 c1.Space).bind fun v1=>some (aO .leq v1 1)
def kM (N:Nat) (x0:(List Str)):Option ((List Str)):=TI x0
def jm (N:Nat) (g0:af) (aH:(List (Str×ah))) (aB:(List (Str×ak))) (lF:aC) (s2:(List Str)) (p3:(Str×Str)):Option (List Str) :=
  (nR N g0 aH aB p3.2 lF).bind fun v5=>bif v5 then ((app s2 [p3.1]).bind fun v6=>some v6) else (some s2)
def jJ (N:Nat) (g0:af) (aH:(List (Str×ah))) (aB:(List (Str×ak))) (aG:(List (Str×Str))) (lF:aC):Option (List Str) :=
  KQ aG fun q4p=>(KP (jm N g0 aH aB lF) q4p []).bind fun s2=>(kM N s2).bind fun v8=>some v8
def nG {S:Type} (N:Nat) (Y:S→dB→Option (S×Bool)) (o8:(List dB)) (s10:(Int×S)):Option ((Int×S) ⊕ (S ⊕ S)) :=
  bif (aO .lss s10.1 (List.length o8:Int)) then ((idx o8 s10.1).bind fun v11=>(bif (aO .gtr (List.length v11.Names:Int) 0) then (Y s10.2 v11) else some (s10.2,false)).bind fun v12=>bif ((aO .gtr (List.length v11.Names:Int) 0)&&(!v12.2)) then (some (.inr (Sum.inr v12.1))) else (some (.inl ((IntKind.i64.wrap (s10.1+1)),v12.1)))) else (some (.inr (Sum.inl s10.2)))
def oI {S:Type} (N:Nat) (Y:S→dB→Option (S×Bool)) (y0:S) (g0:af) (aH:(List (Str×ah))) (aB:(List (Str×ak))) (aG:(List (Str×Str))) (c1:aC):Option S :=
  (bif (aO .lss g0.now c1.From) then (Y y0 (⟨2,[]⟩:dB)) else some (y0,false)).bind fun v1=>bif ((aO .lss g0.now c1.From)&&(!v1.2)) then (some v1.1) else ((nP N g0 aH aB aG c1).bind fun v2=>(jX N g0 aH aB aG c1).bind fun v3=>(nY N g0 aH aB aG c1).bind fun v4=>((bif (aO .eql c1.Kind 3) then ((jJ N g0 aH aB aG c1).bind fun v5=>(app [(⟨18,v2⟩:dB),(⟨20,v3⟩:dB),(⟨21,v4⟩:dB)] [(⟨17,v5⟩:dB)]).bind fun v6=>some v6) else (some [(⟨18,v2⟩:dB),(⟨20,v3⟩:dB),(⟨21,v4⟩:dB)])):Option (List dB)).bind fun o8=>(dA (nG N Y o8) N (0,v1.1)).bind fun UG=>Sum.elim (fun l17=>some l17) (fun r18=>some r18) UG)
def jf (N:Nat) (s7:aj) (i8:dB):Option (aj×Option Nat) :=
  (jh N i8.Err i8.Names).bind fun v12=>some (v12,some 0)
def sU (N:Nat) (g0:af) (aH:(List (Str×ah))) (aB:(List (Str×ak))) (aG:(List (Str×Str))) (x1:bP):Option ((List (Str×ah))×aj) :=
  (lZ N x1.Person).bind fun v1=>bif (!v1) then ((jh N 4 ([]:(List Str))).bind fun v2=>some (aH,v2)) else (bif (zZ .eql x1.Person ((gB (⟨0,[],0⟩:ah) aH x1.Name).Hf)) then ((jh N 26 ([]:(List Str))).bind fun v3=>some (aH,v3)) else ((kN N g0.plan x1.Name).bind fun v4=>(qP N g0 aH aB aG v4.1).bind fun v5=>(oI N (yl (jf N) 1) ((⟨[],0⟩:aj),none) g0 aH aB aG v5).bind fun Ri=>Iw Ri (fun Mc=>(iF N g0 aH aB aG x1.Name 2).bind fun v14=>some (v14,(⟨[],0⟩:aj))) (fun Mc=>some (aH,Mc))))
def qJ (N:Nat) (g0:af) (aH:(List (Str×ah))) (aB:(List (Str×ak))) (aG:(List (Str×Str))) (x1:bP):Option ((List (Str×ah))×aj) :=
  (iF N g0 aH aB aG x1.Name 3).bind fun v1=>some (v1,(⟨[],0⟩:aj))
def kC (N:Nat) (x0:aC) (c0:aC):Option (Bool) :=
  (dY N x0.Locks c0.Name).bind fun v1=>some v1
def qK (N:Nat) (g0:af) (aH:(List (Str×ah))) (aB:(List (Str×ak))) (aG:(List (Str×Str))) (x1:(aC→Option Bool)) (s1:((List Str)×Int)):Option (((List Str)×Int) ⊕ (List Str)) :=
  bif (aO .lss s1.2 (List.length g0.plan.ay:Int)) then ((idx g0.plan.ay s1.2).bind fun v2=>(iJ N g0 aH aB aG v2.Name [2]).bind fun v3=>(bif v3 then (x1 v2) else some false).bind fun v4=>bif (v3&&v4) then ((app s1.1 [v2.Name]).bind fun v5=>some (.inl (v5,(IntKind.i64.wrap (s1.2+1))))) else (some (.inl (s1.1,(IntKind.i64.wrap (s1.2+1)))))) else (some (.inr s1.1))
def nO (N:Nat) (g0:af) (aH:(List (Str×ah))) (aB:(List (Str×ak))) (aG:(List (Str×Str))) (x1:(aC→Option Bool)):Option (List Str) :=
  (dA (qK N g0 aH aB aG x1) N ([],0)).bind fun o8=>some o8
def kD (N:Nat) (x0:aC) (c0:aC):Option (Bool) :=
  some (((aO .eql x0.Kind 1)&&(zZ .eql x0.Space c0.Space))&&(zZ .neq x0.Name c0.Name))
def kE (N:Nat) (x0:Str) (c0:aC):Option (Bool) :=
  some (zZ .eql x0 c0.Space)
def pG (N:Nat) (x1:(Str→Option Bool)) (s2:(List Str)) (p3:(Str×Str)):Option (List Str) :=
  (x1 p3.2).bind fun v5=>bif v5 then ((app s2 [p3.1]).bind fun v6=>some v6) else (some s2)
def qL (N:Nat) (g0:af) (aH:(List (Str×ah))) (aB:(List (Str×ak))) (aG:(List (Str×Str))) (x1:(Str→Option Bool)):Option (List Str) :=
  KQ aG fun q4p=>(KP (pG N x1) q4p []).bind fun s2=>(kM N s2).bind fun v8=>some v8
def rM (N:Nat) (g0:af) (aH:(List (Str×ah))) (aB:(List (Str×ak))) (aG:(List (Str×Str))) (x1:bP):Option ((List (Str×ah))×aj) :=
  (kN N g0.plan x1.Name).bind fun v1=>(iD N g0.plan v1.1.Space).bind fun v2=>((bif (aO .eql v1.1.Kind 5) then ((nO N g0 aH aB aG (fun y0=>kC N y0 v1.1)).bind fun v3=>bif (aO .gtr (List.length v3:Int) 0) then ((jh N 20 v3).bind fun v4=>some (Sum.inr v4)) else (some (Sum.inl (⟨[],0⟩:aj)))) else ((bif (aO .eql v1.1.Kind 1) then (iJ N g0 aH aB aG v1.1.Name [2]) else some false).bind fun v6=>bif (((aO .eql v1.1.Kind 1)&&v6)&&v2.1.lG) then ((nO N g0 aH aB aG (fun y0=>kD N y0 v1.1)).bind fun v7=>(qL N g0 aH aB aG (fun y0=>kE N y0 v1.1)).bind fun v8=>bif ((aO .eql (List.length v7:Int) 0)&&(aO .gtr (List.length v8:Int) 0)) then ((jh N 21 v8).bind fun v9=>some (Sum.inr v9)) else (some (Sum.inl (⟨[],0⟩:aj)))) else (some (Sum.inl (⟨[],0⟩:aj))))):Option (aj ⊕ aj)).bind fun Ri=>Sum.elim (fun l15=>(iF N g0 aH aB aG x1.Name 4).bind fun v17=>some (v17,(⟨[],0⟩:aj))) (fun r16=>some (aH,r16)) Ri
def rO (N:Nat) (g0:af) (aH:(List (Str×ah))) (aB:(List (Str×ak))) (aG:(List (Str×Str))) (x1:bP):Option ((List (Str×ah))×aj) :=
  (iF N g0 aH aB aG x1.Name 5).bind fun v1=>some (v1,(⟨[],0⟩:aj))
def uO (N:Nat) (g0:af) (aH:(List (Str×ah))) (aB:(List (Str×ak))) (aG:(List (Str×Str))) (x1:bP):Option ((List (Str×ak))×aj) :=
  (iD N g0.plan x1.Space).bind fun v1=>bif (!v1.2) then ((jh N 6 ([]:(List Str))).bind fun v2=>some (aB,v2)) else (bif ((((aO .lss x1.AA 0)||(aO .gtr x1.AA 1000))||(aO .lss x1.Um 0))||(aO .gtr x1.Um 1000)) then ((jh N 2 ([]:(List Str))).bind fun v3=>some (aB,v3)) else (some ((pK aB x1.Space (⟨g0.now,x1.AA,x1.Um⟩:ak)),(⟨[],0⟩:aj))))
def kF (N:Nat) (x0:aC) (c0:Str):Option (Bool) :=
  some ((aO .eql x0.Kind 1)&&(zZ .eql x0.Space c0))
def rP (N:Nat) (g0:af) (aH:(List (Str×ah))) (aB:(List (Str×ak))) (aG:(List (Str×Str))) (x1:Str):Option Bool :=
  (nO N g0 aH aB aG (fun y0=>kF N y0 x1)).bind fun v1=>some (aO .gtr (List.length v1:Int) 0)
def qM (N:Nat) (g0:af) (aH:(List (Str×ah))) (aB:(List (Str×ak))) (aG:(List (Str×Str))) (x0:aC) (c1:bW):Option Bool :=
  (bif (aO .eql x0.Kind 3) then (nJ N g0.plan x0.Space c1.Name) else some 0).bind fun v1=>some ((aO .eql x0.Kind 3)&&(aO .leq v1 1))
def kK (N:Nat) (g0:af) (aH:(List (Str×ah))) (aB:(List (Str×ak))) (aG:(List (Str×Str))) (lF:bW) (s1:((List Str)×Int)):Option (((List Str)×Int) ⊕ (List Str)) :=
  bif (aO .lss s1.2 (List.length g0.plan.ay:Int)) then ((idx g0.plan.ay s1.2).bind fun v2=>(iJ N g0 aH aB aG v2.Name [2]).bind fun v3=>(bif v3 then (qM N g0 aH aB aG v2 lF) else some false).bind fun v4=>bif (v3&&v4) then ((app s1.1 [v2.Name]).bind fun v5=>some (.inl (v5,(IntKind.i64.wrap (s1.2+1))))) else (some (.inl (s1.1,(IntKind.i64.wrap (s1.2+1)))))) else (some (.inr s1.1))
def kW (N:Nat) (g0:af) (aH:(List (Str×ah))) (aB:(List (Str×ak))) (aG:(List (Str×Str))) (lF:bW):Option (List Str) :=
  (dA (kK N g0 aH aB aG lF) N ([],0)).bind fun o8=>some o8
def sW (N:Nat) (g0:af) (aH:(List (Str×ah))) (aB:(List (Str×ak))) (aG:(List (Str×Str))) (x1:bP):Option ((List (Str×Str))×aj) :=
  (lZ N x1.Person).bind fun v1=>bif (!v1) then ((jh N 4 ([]:(List Str))).bind fun v2=>some (aG,v2)) else ((iD N g0.plan x1.Space).bind fun v3=>bif (!v3.2) then ((jh N 6 ([]:(List Str))).bind fun v4=>some (aG,v4)) else (bif (nD aG x1.Person) then ((jh N 18 ([]:(List Str))).bind fun v5=>some (aG,v5)) else ((bif v3.1.lG then (rP N g0 aH aB aG v3.1.Name) else some false).bind fun v6=>bif (v3.1.lG&&(!v6)) then ((jh N 21 ([]:(List Str))).bind fun v7=>some (aG,v7)) else ((kW N g0 aH aB aG v3.1).bind fun v8=>bif (aO .gtr (List.length v8:Int) 0) then ((jh N 17 v8).bind fun v9=>some (aG,v9)) else (some ((pK aG x1.Person v3.1.Name),(⟨[],0⟩:aj)))))))
def sZ (N:Nat) (g0:af) (aH:(List (Str×ah))) (aB:(List (Str×ak))) (aG:(List (Str×Str))) (x1:bP):Option ((List (Str×Str))×aj) :=
  (lZ N x1.Person).bind fun v1=>bif (!v1) then ((jh N 4 ([]:(List Str))).bind fun v2=>some (aG,v2)) else (bif (!(nD aG x1.Person)) then ((jh N 6 ([]:(List Str))).bind fun v3=>some (aG,v3)) else (some ((ES aG x1.Person),(⟨[],0⟩:aj))))
def qN (N:Nat) (g0:af) (aH:(List (Str×ah))) (aB:(List (Str×ak))) (aG:(List (Str×Str))) (x0:aC) (c1:bP):Option Bool :=
  (bif (aO .neq x0.Kind 5) then (nJ N g0.plan x0.Space c1.Space) else some 0).bind fun v1=>some ((aO .neq x0.Kind 5)&&(aO .leq v1 1))
def kL (N:Nat) (g0:af) (aH:(List (Str×ah))) (aB:(List (Str×ak))) (aG:(List (Str×Str))) (lF:bP) (s1:((List Str)×Int)):Option (((List Str)×Int) ⊕ (List Str)) :=
  bif (aO .lss s1.2 (List.length g0.plan.ay:Int)) then ((idx g0.plan.ay s1.2).bind fun v2=>(iJ N g0 aH aB aG v2.Name [2]).bind fun v3=>(bif v3 then (qN N g0 aH aB aG v2 lF) else some false).bind fun v4=>bif (v3&&v4) then ((app s1.1 [v2.Name]).bind fun v5=>some (.inl (v5,(IntKind.i64.wrap (s1.2+1))))) else (some (.inl (s1.1,(IntKind.i64.wrap (s1.2+1)))))) else (some (.inr s1.1))
def kX (N:Nat) (g0:af) (aH:(List (Str×ah))) (aB:(List (Str×ak))) (aG:(List (Str×Str))) (lF:bP):Option (List Str) :=
  (dA (kL N g0 aH aB aG lF) N ([],0)).bind fun o8=>some o8
def qw (N:Nat) (g0:af) (aB:(List (Str×ak))) (aG:(List (Str×Str))) (v3:(List Str)) (s4:(Int×(List (Str×ah)))):Option ((Int×(List (Str×ah))) ⊕ (List (Str×ah))) :=
  bif (aO .lss s4.1 (List.length v3:Int)) then ((idx v3 s4.1).bind fun v5=>(iF N g0 s4.2 aB aG v5 3).bind fun v6=>some (.inl ((IntKind.i64.wrap (s4.1+1)),v6))) else (some (.inr s4.2))
def tq (N:Nat) (g0:af) (aH:(List (Str×ah))) (aB:(List (Str×ak))) (aG:(List (Str×Str))) (x1:bP):Option ((List (Str×ah))×aj) :=
  (iD N g0.plan x1.Space).bind fun v1=>bif (!v1.2) then ((jh N 6 ([]:(List Str))).bind fun v2=>some (aH,v2)) else ((kX N g0 aH aB aG x1).bind fun v3=>(dA (qw N g0 aB aG v3) N (0,aH)).bind fun o8=>some (o8,(⟨[],0⟩:aj)))
def rQ (N:Nat) (g0:af) (aH:(List (Str×ah))) (aB:(List (Str×ak))) (aG:(List (Str×Str))) (x1:bP):Option ((List (Str×ah))×aj) :=
  (lZ N x1.Person).bind fun v1=>bif (!v1) then ((jh N 4 ([]:(List Str))).bind fun v2=>some (aH,v2)) else (bif ((aO .leq x1.To ((gB (⟨0,[],0⟩:ah) aH x1.Name).NU))||(aO .gtr x1.To 1000000)) then ((jh N 2 ([]:(List Str))).bind fun v3=>some (aH,v3)) else (some ((pK aH x1.Name ({ (gB (⟨0,[],0⟩:ah) aH x1.Name) with NU:=x1.To }:ah)),(⟨[],0⟩:aj))))
def Kv (N:Nat) (g0:af) (aH:(List (Str×ah))) (aB:(List (Str×ak))) (aG:(List (Str×Str))) (n:(Option Nat)) (x1:bP):Option ((List (Str×ah))×(List (Str×ak))×(List (Str×Str))×aj) :=
  bif decide (n=some 95) then ((ug N g0 aH aB aG x1).bind fun y=>some (aH,aB,aG,y)) else (bif decide (n=some 96) then ((qO N g0 aH aB aG x1).bind fun y=>some (y.1,aB,aG,y.2)) else (bif decide (n=some 97) then ((sU N g0 aH aB aG x1).bind fun y=>some (y.1,aB,aG,y.2)) else (bif decide (n=some 98) then ((qJ N g0 aH aB aG x1).bind fun y=>some (y.1,aB,aG,y.2)) else (bif decide (n=some 99) then ((rM N g0 aH aB aG x1).bind fun y=>some (y.1,aB,aG,y.2)) else (bif decide (n=some 100) then ((rO N g0 aH aB aG x1).bind fun y=>some (y.1,aB,aG,y.2)) else (bif decide (n=some 101) then ((uO N g0 aH aB aG x1).bind fun y=>some (aH,y.1,aG,y.2)) else (bif decide (n=some 102) then ((sW N g0 aH aB aG x1).bind fun y=>some (aH,aB,y.1,y.2)) else (bif decide (n=some 103) then ((sZ N g0 aH aB aG x1).bind fun y=>some (aH,aB,y.1,y.2)) else (bif decide (n=some 104) then ((tq N g0 aH aB aG x1).bind fun y=>some (y.1,aB,aG,y.2)) else (bif decide (n=some 105) then ((rQ N g0 aH aB aG x1).bind fun y=>some (y.1,aB,aG,y.2)) else (none)))))))))))
def qV (N:Nat) (g0:af) (aH:(List (Str×ah))) (aB:(List (Str×ak))) (aG:(List (Str×Str))) (x1:bP):Option (af×(List (Str×ah))×(List (Str×ak))×(List (Str×Str))×(List Str)×Int) :=
  (wS N).bind fun v1=>(bif (!((aO .lss x1.Op 0)||(aO .geq x1.Op (List.length v1:Int)))) then (xX N x1.At) else some false).bind fun v2=>bif (((aO .lss x1.Op 0)||(aO .geq x1.Op (List.length v1:Int)))||(!v2)) then (some (g0,aH,aB,aG,[],2)) else (bif (aO .lss x1.At g0.now) then (some (g0,aH,aB,aG,[],10)) else ((lY N ({ g0 with now:=x1.At }:af) aH aB aG).bind fun v3=>(idx v1 x1.Op).bind fun v4=>((bif (!(List.isEmpty v4.states)) then ((kN N (({ g0 with now:=x1.At }:af).plan) x1.Name).bind fun v5=>bif (!v5.2) then (some (Sum.inr ([],6))) else ((iJ N ({ g0 with now:=x1.At }:af) v3 aB aG x1.Name v4.states).bind fun v6=>bif (!v6) then (some (Sum.inr ([],18))) else (some (Sum.inl ())))) else (some (Sum.inl ()))):Option (Unit ⊕ ((List Str)×Int))).bind fun Pm=>Sum.elim (fun l12=>(Kv N ({ g0 with now:=x1.At }:af) v3 aB aG v4.do_ x1).bind fun v14=>bif (aO .neq v14.2.2.2.e 0) then (some (({ g0 with now:=x1.At }:af),v14.1,v14.2.1,v14.2.2.1,v14.2.2.2.names,v14.2.2.2.e)) else ((lY N ({ g0 with now:=x1.At }:af) v14.1 v14.2.1 v14.2.2.1).bind fun v15=>(app (({ g0 with now:=x1.At }:af).done) [x1]).bind fun v16=>some (({ ({ g0 with now:=x1.At }:af) with done:=v16 }:af),v15,v14.2.1,v14.2.2.1,[],0))) (fun r13=>some (({ g0 with now:=x1.At }:af),v3,aB,aG,r13.1,r13.2)) Pm))
def uI (N:Nat):Option (Bool) :=
  (yO N).bind fun v1=>(AP N v1 ([100,101,99,107]:Str) ([104,111,108,100]:Str)).bind fun v2=>(zB N v1).bind fun v3=>Om v3 (fun Vj=>(uf N (none:(Option (af×Value×Value×Value))) (⟨0,1,([119,101,108,100]:Str),[],([97,110,110]:Str),0,0,0⟩:bP)).bind fun v4=>(uf N (none:(Option (af×Value×Value×Value))) (⟨0,2,([119,101,108,100]:Str),[],([98,111,98]:Str),0,0,0⟩:bP)).bind fun v5=>(bif (((((aO .eql v2.2 0)&&(aO .eql v2.1 2))&&(aO .eql Vj 0))&&(aO .eql v4.2 0))&&(aO .eql v5.2 21)) then (y9 N v5.1 [([116,97,110,107]:Str)]) else some false).bind fun v6=>some ((((((aO .eql v2.2 0)&&(aO .eql v2.1 2))&&(aO .eql Vj 0))&&(aO .eql v4.2 0))&&(aO .eql v5.2 21))&&v6)) (fun Dk Vj=>(qV N Dk.1 Dk.2.1 Dk.2.2.1 Dk.2.2.2 (⟨0,1,([119,101,108,100]:Str),[],([97,110,110]:Str),0,0,0⟩:bP)).bind fun v12=>(qV N v12.1 v12.2.1 v12.2.2.1 v12.2.2.2.1 (⟨0,2,([119,101,108,100]:Str),[],([98,111,98]:Str),0,0,0⟩:bP)).bind fun v13=>(bif (((((aO .eql v2.2 0)&&(aO .eql v2.1 2))&&(aO .eql Vj 0))&&(aO .eql v12.2.2.2.2.2 0))&&(aO .eql v13.2.2.2.2.2 21)) then (y9 N v13.2.2.2.2.1 [([116,97,110,107]:Str)]) else some false).bind fun v14=>some ((((((aO .eql v2.2 0)&&(aO .eql v2.1 2))&&(aO .eql Vj 0))&&(aO .eql v12.2.2.2.2.2 0))&&(aO .eql v13.2.2.2.2.2 21))&&v14))
def uU (N:Nat) (x0:GPermitPlan):Option (Int) :=
  (kU N x0).bind fun v1=>bif (aO .neq v1 0) then (some v1) else (bif (aO .gtr (List.length x0.ay:Int) 10) then (some 8) else (some 0))
def pJ (N:Nat) (x0:aC) (c0:Str):Option (Bool) :=
  some (zZ .eql x0.Name c0)
def iV (N:Nat) (x0:(List aC)) (x1:(aC→Option Bool)):Option (Bool) :=
  (fG N x0 x1).bind fun v1=>some (aO .geq v1 0)
def mQ (N:Nat) (x1:(List aC)) (v2:aC) (s13:Int):Option (Int ⊕ (Unit ⊕ Bool)) :=
  bif (aO .lss s13 (List.length v2.Locks:Int)) then ((idx v2.Locks s13).bind fun v14=>(iV N x1 (fun y0=>pJ N y0 v14)).bind fun v15=>bif (!v15) then (some (.inr (Sum.inr false))) else (some (.inl (IntKind.i64.wrap (s13+1))))) else (some (.inr (Sum.inl ())))
def mP (N:Nat) (x0:GPermitPlan) (v2:aC) (v3:(List aC)) (s4:Int):Option (Int ⊕ (Unit ⊕ Bool)) :=
  bif (aO .lss s4 (List.length v3:Int)) then ((idx v3 s4).bind fun v5=>(oZ N x0 v2 v5).bind fun v6=>bif v6 then (some (.inr (Sum.inr false))) else (some (.inl (IntKind.i64.wrap (s4+1))))) else (some (.inr (Sum.inl ())))
def mO (N:Nat) (x0:GPermitPlan) (x1:(List aC)) (s1:Int):Option (Int ⊕ (Unit ⊕ Bool)) :=
  bif (aO .lss s1 (List.length x1:Int)) then ((idx x1 s1).bind fun v2=>(P6 x1 0 s1).bind fun v3=>(dA (mP N x0 v2 v3) N 0).bind fun o9=>Sum.elim (fun l11=>(dA (mQ N x1 v2) N 0).bind fun UB=>Sum.elim (fun l20=>some (.inl (IntKind.i64.wrap (s1+1)))) (fun r21=>some (.inr (Sum.inr r21))) UB) (fun r12=>some (.inr (Sum.inr r12))) o9) else (some (.inr (Sum.inl ())))
def oU (N:Nat) (x0:GPermitPlan) (x1:(List aC)):Option (Bool) :=
  (dA (mO N x0 x1) N 0).bind fun Qh=>Sum.elim (fun l27=>some true) (fun r28=>some r28) Qh
def ng (N:Nat) (x0:(List (List Int))) (x1:((List Int)→(List Int)→Option Int)):Option (List (List Int)):=Qa x1 x0
def sO (N:Nat) (x0:Int):Option (Bool) :=
  some (aO .neq x0 x0)
def qj (N:Nat) (x0:Int) (x1:Int):Option (Int) :=
  (sO N x0).bind fun v1=>(sO N x1).bind fun v2=>bif v1 then (bif v2 then (some 0) else (some (-1))) else (bif v2 then (some 1) else (bif (aO .lss x0 x1) then (some (-1)) else (bif (aO .gtr x0 x1) then (some 1) else (some 0))))
def eH (N:Nat) (x0:(List Int)) (x1:(List Int)) (s1:Int):Option (Int ⊕ (Unit ⊕ Int)) :=
  bif (aO .lss s1 (List.length x0:Int)) then ((idx x0 s1).bind fun v2=>bif (aO .geq s1 (List.length x1:Int)) then (some (.inr (Sum.inr 1))) else ((idx x1 s1).bind fun v3=>(qj N v2 v3).bind fun v4=>bif (aO .neq v4 0) then (some (.inr (Sum.inr v4))) else (some (.inl (IntKind.i64.wrap (s1+1)))))) else (some (.inr (Sum.inl ())))
def lW (N:Nat) (x0:(List Int)) (x1:(List Int)):Option (Int) :=
  (dA (eH N x0 x1) N 0).bind fun o8=>Sum.elim (fun l10=>bif (aO .lss (List.length x0:Int) (List.length x1:Int)) then (some (-1)) else (some 0)) (fun r11=>some r11) o8
def lX (N:Nat) (x0:(List Int)) (s1:Int):Option (Int ⊕ (Unit ⊕ Int)) :=
  bif (aO .lss s1 (List.length x0:Int)) then ((idx x0 s1).bind fun v2=>bif (aO .neq v2 0) then (some (.inr (Sum.inr v2))) else (some (.inl (IntKind.i64.wrap (s1+1))))) else (some (.inr (Sum.inl ())))
def yt (N:Nat) (x0:(List Int)):Option (Int) :=
  (dA (lX N x0) N 0).bind fun o5=>Sum.elim (fun l7=>some 0) (fun r8=>some r8) o5
def jW (N:Nat) (x0:(List Int)) (x1:(List Int)):Option (Int) :=
  (qj N (List.length x0:Int) (List.length x1:Int)).bind fun v1=>(lW N x0 x1).bind fun v2=>(yt N [v1,v2]).bind fun v3=>some v3
def oz (N:Nat) (x0:GPermitPlan) (s2:((List (List Int))×Int)) (s3:((List Int)×(List aC)×Int)):Option (((List Int)×(List aC)×Int) ⊕ ((List Int)×(List aC))) :=
  bif (aO .lss s3.2.2 (List.length x0.ay:Int)) then ((idx x0.ay s3.2.2).bind fun v4=>(OV .i64 s2.2 s3.2.2).bind fun v5=>bif (aO .eql (OU .and .i64 v5 1) 1) then ((app s3.1 [s3.2.2]).bind fun v6=>(app s3.2.1 [v4]).bind fun v7=>some (.inl (v6,v7,(IntKind.i64.wrap (s3.2.2+1))))) else (some (.inl (s3.1,s3.2.1,(IntKind.i64.wrap (s3.2.2+1)))))) else (some (.inr (s3.1,s3.2.1)))
def ou (N:Nat) (x0:GPermitPlan) (v1:Int) (s2:((List (List Int))×Int)):Option (((List (List Int))×Int) ⊕ (List (List Int))) :=
  bif (aO .lss s2.2 v1) then ((dA (oz N x0 s2) N ([],[],0)).bind fun Pm=>(oU N x0 Pm.2).bind fun v12=>bif v12 then ((app s2.1 [Pm.1]).bind fun v13=>some (.inl (v13,(IntKind.i64.wrap (s2.2+1))))) else (some (.inl (s2.1,(IntKind.i64.wrap (s2.2+1)))))) else (some (.inr s2.1))
def vU (N:Nat) (x0:GPermitPlan):Option ((List (List Int))) :=
  (TD .i64 1 (List.length x0.ay:Int)).bind fun v1=>(dA (ou N x0 v1) N ([],0)).bind fun UD=>(ng N UD (fun y0 y1=>jW N y0 y1)).bind fun v19=>some v19
def oN (N:Nat) (x0:Int) (c0:(List Int)):Option (Bool) :=
  (jR N c0 x0).bind fun v1=>some (!v1)
def jg (N:Nat) (x0:(List Int)) (x1:(Int→Option Bool)) (s1:Int):Option (Int ⊕ (Unit ⊕ Int)) :=
  bif (aO .lss s1 (List.length x0:Int)) then ((idx x0 s1).bind fun v2=>(x1 v2).bind fun v3=>bif v3 then (some (.inr (Sum.inr s1))) else (some (.inl (IntKind.i64.wrap (s1+1))))) else (some (.inr (Sum.inl ())))
def nM (N:Nat) (x0:(List Int)) (x1:(Int→Option Bool)):Option (Int) :=
  (dA (jg N x0 x1) N 0).bind fun o6=>Sum.elim (fun l8=>some (-1)) (fun r9=>some r9) o6
def jO (N:Nat) (x0:(List Int)) (x1:(Int→Option Bool)):Option (Bool) :=
  (nM N x0 x1).bind fun v1=>some (aO .geq v1 0)
def oC (N:Nat) (x0:(List Int)) (c0:(List Int)):Option (Bool) :=
  (bif (aO .gtr (List.length x0:Int) (List.length c0:Int)) then (jO N c0 (fun y0=>oN N y0 x0)) else some false).bind fun v1=>some ((aO .gtr (List.length x0:Int) (List.length c0:Int))&&(!v1))
def iZ (N:Nat) (x0:(List (List Int))) (x1:((List Int)→Option Bool)) (s1:Int):Option (Int ⊕ (Unit ⊕ Int)) :=
  bif (aO .lss s1 (List.length x0:Int)) then ((idx x0 s1).bind fun v2=>(x1 v2).bind fun v3=>bif v3 then (some (.inr (Sum.inr s1))) else (some (.inl (IntKind.i64.wrap (s1+1))))) else (some (.inr (Sum.inl ())))
def mD (N:Nat) (x0:(List (List Int))) (x1:((List Int)→Option Bool)):Option (Int) :=
  (dA (iZ N x0 x1) N 0).bind fun o6=>Sum.elim (fun l8=>some (-1)) (fun r9=>some r9) o6
def jy (N:Nat) (x0:(List (List Int))) (x1:((List Int)→Option Bool)):Option (Bool) :=
  (mD N x0 x1).bind fun v1=>some (aO .geq v1 0)
def nN (N:Nat) (x0:GPermitPlan) (v2:(List Int)) (s3:((List Str)×Int)):Option (((List Str)×Int) ⊕ (List Str)) :=
  bif (aO .lss s3.2 (List.length v2:Int)) then ((idx v2 s3.2).bind fun v4=>(idx x0.ay v4).bind fun v5=>(app s3.1 [v5.Name]).bind fun v6=>some (.inl (v6,(IntKind.i64.wrap (s3.2+1))))) else (some (.inr s3.1))
def oV (N:Nat) (x0:GPermitPlan) (x1:(List (List Int))) (s1:((List (List Str))×Int)):Option (((List (List Str))×Int) ⊕ (List (List Str))) :=
  bif (aO .lss s1.2 (List.length x1:Int)) then ((idx x1 s1.2).bind fun v2=>(dA (nN N x0 v2) N ([],0)).bind fun o8=>(app s1.1 [o8]).bind fun v10=>some (.inl (v10,(IntKind.i64.wrap (s1.2+1))))) else (some (.inr s1.1))
def uV (N:Nat) (x0:GPermitPlan) (x1:(List (List Int))):Option ((List (List Str))) :=
  (dA (oV N x0 x1) N ([],0)).bind fun Ri=>some Ri
def lI (N:Nat) (v2:(List (List Int))) (s3:((List (List Int))×Int)):Option (((List (List Int))×Int) ⊕ (List (List Int))) :=
  bif (aO .lss s3.2 (List.length v2:Int)) then ((idx v2 s3.2).bind fun v4=>(jy N v2 (fun y0=>oC N y0 v4)).bind fun v5=>bif (!v5) then ((app s3.1 [v4]).bind fun v6=>some (.inl (v6,(IntKind.i64.wrap (s3.2+1))))) else (some (.inl (s3.1,(IntKind.i64.wrap (s3.2+1)))))) else (some (.inr s3.1))
def sS (N:Nat) (x0:GPermitPlan):Option ((List (List Str))×Int) :=
  (uU N x0).bind fun v1=>bif (aO .neq v1 0) then (some ([],v1)) else ((vU N x0).bind fun v2=>(dA (lI N v2) N ([],0)).bind fun o9=>(uV N x0 o9).bind fun v11=>some (v11,0))
def kV (N:Nat) (x0:GPermitPlan) (x1:(List Str)) (s2:((List aC)×Int)):Option (((List aC)×Int) ⊕ ((List aC) ⊕ (Bool×Int))) :=
  bif (aO .lss s2.2 (List.length x1:Int)) then ((idx x1 s2.2).bind fun v3=>(kN N x0 v3).bind fun v4=>bif (!v4.2) then (some (.inr (Sum.inr (false,6)))) else ((P6 x1 0 s2.2).bind fun v5=>(dY N v5 v3).bind fun v6=>bif v6 then (some (.inr (Sum.inr (false,5)))) else ((app s2.1 [v4.1]).bind fun v7=>some (.inl (v7,(IntKind.i64.wrap (s2.2+1))))))) else (some (.inr (Sum.inl s2.1)))
def lJ (N:Nat) (x0:GPermitPlan) (x1:(List Str)):Option (Bool×Int) :=
  (kU N x0).bind fun v1=>bif (aO .neq v1 0) then (some (false,v1)) else ((dA (kV N x0 x1) N ([],0)).bind fun Pv=>Sum.elim (fun l13=>(oU N x0 l13).bind fun v15=>some (v15,0)) (fun UE=>some (UE.1,UE.2)) Pv)
def nT (N:Nat) (x0:(List Str)) (x1:(List Str)) (s1:Int) (s2:(Bool×Int)):Option ((Bool×Int) ⊕ Bool) :=
  bif (aO .lss s2.2 (List.length x0:Int)) then ((bif (!s2.1) then (idx x0 s2.2) else some []).bind fun v3=>(bif (!s2.1) then (idx x1 s1) else some []).bind fun v4=>some (.inl ((s2.1||(zZ .eql v3 v4)),(IntKind.i64.wrap (s2.2+1))))) else (some (.inr s2.1))
def nS (N:Nat) (x0:(List Str)) (x1:(List Str)) (s1:Int):Option (Int ⊕ (Unit ⊕ Bool)) :=
  bif (aO .lss s1 (List.length x1:Int)) then ((dA (nT N x0 x1 s1) N (false,0)).bind fun o6=>bif (!o6) then (some (.inr (Sum.inr false))) else (some (.inl (IntKind.i64.wrap (s1+1))))) else (some (.inr (Sum.inl ())))
def oD (N:Nat) (x0:(List Str)) (x1:(List Str)):Option (Bool) :=
  (dA (nS N x0 x1) N 0).bind fun Pv=>Sum.elim (fun l13=>some true) (fun UE=>some UE) Pv
def jv (N:Nat) (x0:GPermitPlan) (s7:Int) (s15:((List Str)×Int)):Option (((List Str)×Int) ⊕ (List Str)) :=
  (idx x0.ay s7).bind fun v16=>bif (aO .lss s15.2 (List.length v16.Locks:Int)) then ((idx x0.ay s7).bind fun v17=>(idx v17.Locks s15.2).bind fun v18=>(oD N s15.1 [v18]).bind fun v19=>bif (!v19) then ((idx x0.ay s7).bind fun v20=>(idx v20.Locks s15.2).bind fun v21=>(app s15.1 [v21]).bind fun v22=>some (.inl (v22,(IntKind.i64.wrap (s15.2+1))))) else (some (.inl (s15.1,(IntKind.i64.wrap (s15.2+1)))))) else (some (.inr s15.1))
def ku (N:Nat) (x0:GPermitPlan) (v3:((List (List Str))×Int)) (s4:Int) (s7:Int):Option (Int ⊕ (Unit ⊕ Bool)) :=
  bif (aO .lss s7 (List.length x0.ay:Int)) then ((idx v3.1 s4).bind fun v8=>(idx x0.ay s7).bind fun v9=>(oD N v8 [v9.Name]).bind fun v10=>bif v10 then (some (.inl (IntKind.i64.wrap (s7+1)))) else ((idx v3.1 s4).bind fun v11=>(app ([]:(List Str)) v11).bind fun v12=>(idx x0.ay s7).bind fun v13=>(app v12 [v13.Name]).bind fun v14=>(dA (jv N x0 s7) N (v14,0)).bind fun Qh=>(lJ N x0 Qh).bind fun v27=>bif (v27.1||(aO .neq v27.2 0)) then (some (.inr (Sum.inr false))) else (some (.inl (IntKind.i64.wrap (s7+1)))))) else (some (.inr (Sum.inl ())))
def kz (N:Nat) (x1:(List Str)) (v3:((List (List Str))×Int)) (s45:Int):Option (Int ⊕ (Unit ⊕ Bool)) :=
  bif (aO .lss s45 (List.length v3.1:Int)) then ((idx v3.1 s45).bind fun v46=>(oD N v46 x1).bind fun v47=>bif v47 then ((uI N).bind fun v48=>some (.inr (Sum.inr v48))) else (some (.inl (IntKind.i64.wrap (s45+1))))) else (some (.inr (Sum.inl ())))
def jZ (N:Nat) (x0:GPermitPlan) (v3:((List (List Str))×Int)) (s4:Int):Option (Int ⊕ (Unit ⊕ Bool)) :=
  bif (aO .lss s4 (List.length v3.1:Int)) then ((idx v3.1 s4).bind fun v5=>(lJ N x0 v5).bind fun v6=>bif ((!v6.1)||(aO .neq v6.2 0)) then (some (.inr (Sum.inr false))) else ((dA (ku N x0 v3 s4) N 0).bind fun o32=>Sum.elim (fun l34=>some (.inl (IntKind.i64.wrap (s4+1)))) (fun r35=>some (.inr (Sum.inr r35))) o32)) else (some (.inr (Sum.inl ())))
def qC (N:Nat) (x0:GPermitPlan) (x1:(List Str)):Option (Bool) :=
  (wJ N x0).bind fun v1=>bif (((!v1)||(aO .gtr (List.length x0.ay:Int) 6))||(aO .gtr (List.length x1:Int) 10)) then ((uI N).bind fun v2=>some v2) else ((sS N x0).bind fun v3=>bif ((aO .neq v3.2 0)||(aO .eql (List.length v3.1:Int) 0)) then (some false) else ((dA (jZ N x0 v3) N 0).bind fun o39=>Sum.elim (fun l41=>(lJ N x0 x1).bind fun v43=>bif ((aO .neq v43.2 0)||(!v43.1)) then ((uI N).bind fun v44=>some v44) else ((dA (kz N x1 v3) N 0).bind fun o51=>Sum.elim (fun l53=>some false) (fun r54=>some r54) o51)) (fun r42=>some r42) o39))
end
end Go.KB
