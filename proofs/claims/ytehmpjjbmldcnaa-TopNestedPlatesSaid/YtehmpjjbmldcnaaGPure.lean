/- The functions as plain Lean functions. Printed by a program. No condition. -/
import Derived.Test.YtehmpjjbmldcnaaGTypes
namespace Go.KB
set_option linter.unusedVariables false
def uf (N:Nat) (x0:Int):Option (Bool) :=
  some (((aB .geq x0 97)&&(aB .leq x0 122))||((aB .geq x0 65)&&(aB .leq x0 90)))
def rO (N:Nat) (x0:Str) (s3:Int):Option (Int ⊕ (Unit ⊕ Bool)) :=
  bif (aB .lss s3 (List.length x0:Int)) then ((idx x0 s3).bind fun v4=>(uf N ((UInt8.toNat v4:Nat):Int)).bind fun v5=>bif (((!v5)&&(aB .neq ((UInt8.toNat v4:Nat):Int) 45))&&((aB .lss ((UInt8.toNat v4:Nat):Int) 48)||(aB .gtr ((UInt8.toNat v4:Nat):Int) 57))) then (some (.inr (Sum.inr false))) else (some (.inl (IntKind.i64.wrap (s3+1))))) else (some (.inr (Sum.inl ())))
def vV (N:Nat) (x0:Str):Option (Bool) :=
  (bif (!((aB .lss (List.length x0:Int) 1)||(aB .gtr (List.length x0:Int) 12))) then (idx x0 0) else some 0).bind fun v1=>(bif (!((aB .lss (List.length x0:Int) 1)||(aB .gtr (List.length x0:Int) 12))) then (uf N ((UInt8.toNat v1:Nat):Int)) else some false).bind fun v2=>bif (((aB .lss (List.length x0:Int) 1)||(aB .gtr (List.length x0:Int) 12))||(!v2)) then (some false) else ((aX (rO N x0) N 0).bind fun o8=>Sum.elim (fun l10=>some true) (fun r11=>some r11) o8)
def qM (N:Nat) (x0:Int) (c0:Int) (c1:Int):Option (Bool) :=
  some ((aB .lss x0 c0)||(aB .gtr x0 c1))
def jF (N:Nat) (x0:(List Int)) (x1:(Int→Option Bool)) (s1:Int):Option (Int ⊕ (Unit ⊕ Int)) :=
  bif (aB .lss s1 (List.length x0:Int)) then ((idx x0 s1).bind fun v2=>(x1 v2).bind fun v3=>bif v3 then (some (.inr (Sum.inr s1))) else (some (.inl (IntKind.i64.wrap (s1+1))))) else (some (.inr (Sum.inl ())))
def kE (N:Nat) (x0:(List Int)) (x1:(Int→Option Bool)):Option (Int) :=
  (aX (jF N x0 x1) N 0).bind fun o6=>Sum.elim (fun l8=>some (-1)) (fun r9=>some r9) o6
def iH (N:Nat) (x0:(List Int)) (x1:(Int→Option Bool)):Option (Bool) :=
  (kE N x0 x1).bind fun v1=>some (aB .geq v1 0)
def kN (N:Nat) (x0:Int) (x1:Int) (x2:(List Int)):Option (Bool) :=
  (iH N x2 (fun y0=>qM N y0 x0 x1)).bind fun v1=>some (!v1)
def mQ (N:Nat) (x0:GPlate):Option (Int) :=
  (kN N 1 100000 [x0.W,x0.H]).bind fun v1=>(bif (!(!v1)) then (kN N 0 1000000000 [x0.Price]) else some false).bind fun v2=>bif ((!v1)||(!v2)) then (some 2) else (some 0)
def kV (N:Nat) (x1:(List GPlate)) (s13:Int):Option (Int ⊕ (Unit ⊕ Int)) :=
  bif (aB .lss s13 (List.length x1:Int)) then ((idx x1 s13).bind fun v14=>(mQ N v14).bind fun v15=>bif (aB .neq v15 0) then (some (.inr (Sum.inr v15))) else (some (.inl (IntKind.i64.wrap (s13+1))))) else (some (.inr (Sum.inl ())))
def kU (N:Nat) (x0:(List bC)) (s1:((List (Str×Bool))×Int)):Option (((List (Str×Bool))×Int) ⊕ (Unit ⊕ Int)) :=
  bif (aB .lss s1.2 (List.length x0:Int)) then ((idx x0 s1.2).bind fun v2=>(vV N v2.Name).bind fun v3=>bif (!v3) then (some (.inr (Sum.inr 4))) else (bif (Dq false s1.1 v2.Name) then (some (.inr (Sum.inr 5))) else ((kN N 1 100000 [v2.W,v2.H]).bind fun v4=>bif (!v4) then (some (.inr (Sum.inr 2))) else (some (.inl ((Be s1.1 v2.Name true),(IntKind.i64.wrap (s1.2+1)))))))) else (some (.inr (Sum.inl ())))
def jS (N:Nat) (x0:(List bC)) (x1:(List GPlate)) (x2:Int):Option (Int) :=
  bif ((aB .gtr (List.length x0:Int) 6)||(aB .gtr (List.length x1:Int) 3)) then (some 8) else ((aX (kU N x0) N (([]:(List (Str×Bool))),0)).bind fun o9=>Sum.elim (fun Ws=>(aX (kV N x1) N 0).bind fun o18=>Sum.elim (fun l20=>(kN N 0 100 [x2]).bind fun v22=>bif (!v22) then (some 2) else (some 0)) (fun r21=>some r21) o18) (fun r12=>some r12) o9)
def oP (N:Nat) (x0:af) (c0:af):Option (Bool) :=
  some ((aB .leq x0.w c0.w)&&(aB .leq x0.h c0.h))
def dN (N:Nat) (x0:(List af)) (x1:(af→Option Bool)) (s1:Int):Option (Int ⊕ (Unit ⊕ Int)) :=
  bif (aB .lss s1 (List.length x0:Int)) then ((idx x0 s1).bind fun v2=>(x1 v2).bind fun v3=>bif v3 then (some (.inr (Sum.inr s1))) else (some (.inl (IntKind.i64.wrap (s1+1))))) else (some (.inr (Sum.inl ())))
def dW (N:Nat) (x0:(List af)) (x1:(af→Option Bool)):Option Int :=
  (aX (dN N x0 x1) N 0).bind fun o6=>Sum.elim (fun l8=>some (-1)) (fun r9=>some r9) o6
def fA (N:Nat) (x0:(List af)) (x1:(af→Option Bool)):Option Bool :=
  (dW N x0 x1).bind fun v1=>some (aB .geq v1 0)
def qH (N:Nat) (x0:af) (c0:af):Option (Bool) :=
  some ((aB .leq c0.w x0.w)&&(aB .leq c0.h x0.h))
def dH (N:Nat) (x1:(af→Option Bool)) (s2:((List af)×Int×Int)):Option (((List af)×Int×Int) ⊕ ((List af)×Int)) :=
  bif (aB .lss s2.2.2 (List.length s2.1:Int)) then ((idx s2.1 s2.2.2).bind fun v3=>(x1 v3).bind fun v4=>bif (!v4) then ((idx s2.1 s2.2.1).bind fun v5=>some (.inl ((List.set s2.1 (Int.toNat s2.2.1) v3),(IntKind.i64.wrap (s2.2.1+1)),(IntKind.i64.wrap (s2.2.2+1))))) else (some (.inl (s2.1,s2.2.1,(IntKind.i64.wrap (s2.2.2+1)))))) else (some (.inr (s2.1,s2.2.1)))
def gu (N:Nat) (x0:(List af)) (x1:(af→Option Bool)):Option ((List af)) :=
  (dW N x0 x1).bind fun v1=>bif (aB .eql v1 (-1)) then (some x0) else ((aX (dH N x1) N (x0,v1,(IntKind.i64.wrap (v1+1)))).bind fun o8=>(MB o8.1 o8.2 (List.length o8.1:Int)).bind fun v10=>(bif Nat.beq ((Int.toNat o8.2)+(Int.toNat (List.length o8.1:Int) - Int.toNat o8.2)) (List.length o8.1) then some (List.take (Int.toNat o8.2) o8.1 ++ List.replicate (Int.toNat (List.length o8.1:Int) - Int.toNat o8.2) (⟨0,0,0,false,false,[]⟩:af)) else none).bind fun v11=>(bif decide (0≤o8.2)&&decide (o8.2≤(List.length v11:Int)) then some (List.take (Int.toNat o8.2) v11) else none).bind fun v12=>some v12)
def vW (N:Nat) (x0:(List af)) (x1:af):Option ((List af)) :=
  (fA N x0 (fun y0=>oP N y0 x1)).bind fun v1=>bif v1 then (some x0) else ((gu N x0 (fun y0=>qH N y0 x1)).bind fun v2=>(app v2 [x1]).bind fun v3=>some v3)
def jU (N:Nat) (g0:(List (gV af))) (x0:Int) (x1:af) (c0:Int) (c1:Int):Option (List (gV af)) :=
  bif ((aB .leq x1.w c0)&&(aB .leq x1.h c1)) then ((idx g0 x0).bind fun v1=>(X3 g0 (Int.toNat x0)).bind fun v2=>(vW N v2 x1).bind fun v3=>(idx (List.set g0 (Int.toNat x0) gV.gone) x0).bind fun v4=>((List.set g0 (Int.toNat x0) gV.gone)[(Int.toNat x0)]?).bind fun v5=>some (List.set (List.set g0 (Int.toNat x0) gV.gone) (Int.toNat x0) (gV.own v3))) else (some g0)
def wG (N:Nat) (x0:Int):Option (Int) :=
  (vG .u64 x0 1).bind fun v1=>(vG .u64 (IntKind.u64.wrap ((iY .and .u64 v1 6148914691236517205)+(iY .and .u64 x0 6148914691236517205))) 2).bind fun v2=>(vG .u64 (IntKind.u64.wrap ((iY .and .u64 v2 3689348814741910323)+(iY .and .u64 (IntKind.u64.wrap ((iY .and .u64 v1 6148914691236517205)+(iY .and .u64 x0 6148914691236517205))) 3689348814741910323))) 4).bind fun v3=>(vG .u64 (iY .and .u64 (IntKind.u64.wrap (v3+(IntKind.u64.wrap ((iY .and .u64 v2 3689348814741910323)+(iY .and .u64 (IntKind.u64.wrap ((iY .and .u64 v1 6148914691236517205)+(iY .and .u64 x0 6148914691236517205))) 3689348814741910323))))) 1085102592571150095) 8).bind fun v4=>(vG .u64 (IntKind.u64.wrap ((iY .and .u64 (IntKind.u64.wrap (v3+(IntKind.u64.wrap ((iY .and .u64 v2 3689348814741910323)+(iY .and .u64 (IntKind.u64.wrap ((iY .and .u64 v1 6148914691236517205)+(iY .and .u64 x0 6148914691236517205))) 3689348814741910323))))) 1085102592571150095)+v4)) 16).bind fun v5=>(vG .u64 (IntKind.u64.wrap ((IntKind.u64.wrap ((iY .and .u64 (IntKind.u64.wrap (v3+(IntKind.u64.wrap ((iY .and .u64 v2 3689348814741910323)+(iY .and .u64 (IntKind.u64.wrap ((iY .and .u64 v1 6148914691236517205)+(iY .and .u64 x0 6148914691236517205))) 3689348814741910323))))) 1085102592571150095)+v4))+v5)) 32).bind fun v6=>some (iY .and .i64 (IntKind.i64.wrap (IntKind.u64.wrap ((IntKind.u64.wrap ((IntKind.u64.wrap ((iY .and .u64 (IntKind.u64.wrap (v3+(IntKind.u64.wrap ((iY .and .u64 v2 3689348814741910323)+(iY .and .u64 (IntKind.u64.wrap ((iY .and .u64 v1 6148914691236517205)+(iY .and .u64 x0 6148914691236517205))) 3689348814741910323))))) 1085102592571150095)+v4))+v5))+v6))) 127)
def rP (N:Nat) (x0:Int):Option (Int) :=
  (wG N x0).bind fun v1=>some v1
def lQ (N:Nat) (x1:Int) (x2:Int) (x3:Int) (s14:(Int×(List (gV af)))) (v20:af) (v22:(List af)) (s23:(Int×(List (gV af)))):Option ((Int×(List (gV af))) ⊕ (List (gV af))) :=
  bif (aB .lss s23.1 (List.length v22:Int)) then ((idx v22 s23.1).bind fun v24=>(jU N s23.2 s14.1 (⟨(IntKind.i64.wrap ((IntKind.i64.wrap (v20.w+x3))+v24.w)),(max v20.h v24.h),0,false,false,[v20,v24]⟩:af) x1 x2).bind fun v25=>(jU N v25 s14.1 (⟨(max v20.w v24.w),(IntKind.i64.wrap ((IntKind.i64.wrap (v20.h+x3))+v24.h)),0,false,true,[v20,v24]⟩:af) x1 x2).bind fun v26=>some (.inl ((IntKind.i64.wrap (s23.1+1)),v26))) else (some (.inr s23.2))
def lN (N:Nat) (x1:Int) (x2:Int) (x3:Int) (s14:(Int×(List (gV af)))) (s16:(Int×(List (gV af)))) (v18:(List af)) (E5:(Int×(List (gV af)))):Option ((Int×(List (gV af))) ⊕ (List (gV af))) :=
  bif (aB .lss E5.1 (List.length v18:Int)) then ((idx v18 E5.1).bind fun v20=>(idx E5.2 (iY .xor .i64 s14.1 s16.1)).bind fun v21=>(rdA E5.2 (Int.toNat (iY .xor .i64 s14.1 s16.1))).bind fun v22=>(aX (lQ N x1 x2 x3 s14 v20 v22) N (0,(List.set E5.2 (Int.toNat (iY .xor .i64 s14.1 s16.1)) (gV.fz v22)))).bind fun XM=>some (.inl ((IntKind.i64.wrap (E5.1+1)),XM))) else (some (.inr E5.2))
def kH (N:Nat) (x1:Int) (x2:Int) (x3:Int) (s14:(Int×(List (gV af)))) (s16:(Int×(List (gV af)))):Option ((Int×(List (gV af))) ⊕ (List (gV af))) :=
  bif (aB .gtr s16.1 0) then (bif (aB .lss s16.1 (iY .xor .i64 s14.1 s16.1)) then (some (.inl ((iY .and .i64 (IntKind.i64.wrap (s16.1 - 1)) s14.1),s16.2))) else ((idx s16.2 s16.1).bind fun v17=>(rdA s16.2 (Int.toNat s16.1)).bind fun v18=>(aX (lN N x1 x2 x3 s14 s16 v18) N (0,(List.set s16.2 (Int.toNat s16.1) (gV.fz v18)))).bind fun o32=>some (.inl ((iY .and .i64 (IntKind.i64.wrap (s16.1 - 1)) s14.1),o32)))) else (some (.inr s16.2))
def kG (N:Nat) (x1:Int) (x2:Int) (x3:Int) (yZ:(List (gV af))) (s14:(Int×(List (gV af)))):Option ((Int×(List (gV af))) ⊕ (List (gV af))) :=
  bif (aB .lss s14.1 (List.length yZ:Int)) then ((rP N (IntKind.u64.wrap s14.1)).bind fun v15=>bif (aB .lss v15 2) then (some (.inl ((IntKind.i64.wrap (s14.1+1)),s14.2))) else ((aX (kH N x1 x2 x3 s14) N ((iY .and .i64 (IntKind.i64.wrap (s14.1 - 1)) s14.1),s14.2)).bind fun o37=>some (.inl ((IntKind.i64.wrap (s14.1+1)),o37)))) else (some (.inr s14.2))
def kF (N:Nat) (x0:(List bC)) (x1:Int) (x2:Int) (s4:(Int×(List (gV af)))):Option ((Int×(List (gV af))) ⊕ (List (gV af))) :=
  bif (aB .lss s4.1 (List.length x0:Int)) then ((idx x0 s4.1).bind fun v5=>(yS .i64 1 s4.1).bind fun v6=>(jU N s4.2 v6 (⟨v5.W,v5.H,s4.1,false,false,[]⟩:af) x1 x2).bind fun v7=>bif v5.Turn then ((yS .i64 1 s4.1).bind fun v8=>(jU N v7 v8 (⟨v5.H,v5.W,s4.1,true,false,[]⟩:af) x1 x2).bind fun v9=>some (.inl ((IntKind.i64.wrap (s4.1+1)),v9))) else (some (.inl ((IntKind.i64.wrap (s4.1+1)),v7)))) else (some (.inr s4.2))
def oQ (N:Nat) (x0:(List bC)) (x1:Int) (x2:Int) (x3:Int):Option ((List (List af))) :=
  (yS .i64 1 (List.length x0:Int)).bind fun v1=>(mk (gV.own ([]:(List af))) v1 v1).bind fun v2=>(aX (kF N x0 x1 x2) N (0,v2)).bind fun yZ=>(aX (kG N x1 x2 x3 yZ) N (0,yZ)).bind fun o42=>(allA o42).bind fun v44=>some v44
def iI (N:Nat) (rc:af→Option (bV)) (x0:af):Option (bV) :=
  bif (aB .eql (List.length x0.parts:Int) 0) then (some (⟨x0.piece,x0.turned,false,0,[],[]⟩:bV)) else ((idx x0.parts 0).bind fun v1=>bif x0.across then ((idx x0.parts 0).bind fun v2=>(idx x0.parts 0).bind fun v3=>(rc v3).bind fun v4=>(idx x0.parts 1).bind fun v5=>(rc v5).bind fun v6=>some (⟨(-1),false,x0.across,v2.h,[v4],[v6]⟩:bV)) else ((idx x0.parts 0).bind fun v7=>(rc v7).bind fun v8=>(idx x0.parts 1).bind fun v9=>(rc v9).bind fun v10=>some (⟨(-1),false,x0.across,v1.w,[v8],[v10]⟩:bV)))
def iR (N:Nat):af→Option (bV) :=
  match N with
  | 0=>fun _=>none
  | N+1=>fun x0=>iI N (iR N) x0
def qj (N:Nat) (x0:(List (List af))) (x1:Int):Option (bV×Bool) :=
  bif (aB .eql x1 0) then (some ((⟨(-1),false,false,0,[],[]⟩:bV),true)) else ((idx x0 x1).bind fun v1=>bif (aB .eql (List.length v1:Int) 0) then (some ((⟨0,false,false,0,[],[]⟩:bV),false)) else ((idx x0 x1).bind fun v2=>(idx v2 0).bind fun v3=>(iR N v3).bind fun v4=>some (v4,true)))
def qN (N:Nat) (x0:(List bC)) (x1:GPlate) (x2:Int):Option (bV×Bool×Int) :=
  (jS N x0 [x1] x2).bind fun v1=>bif (aB .neq v1 0) then (some ((⟨0,false,false,0,[],[]⟩:bV),false,v1)) else ((oQ N x0 x1.W x1.H x2).bind fun v2=>(yS .i64 1 (List.length x0:Int)).bind fun v3=>(qj N v2 (IntKind.i64.wrap (v3 - 1))).bind fun v4=>some (v4.1,v4.2,0))
def xg (N:Nat):Option (Bool) :=
  (qN N [(⟨([97]:Str),2,2,false⟩:bC),(⟨([98]:Str),2,2,false⟩:bC)] (⟨4,2,0⟩:GPlate) 0).bind fun v1=>(qN N [(⟨([97]:Str),2,2,false⟩:bC),(⟨([98]:Str),2,2,false⟩:bC)] (⟨3,3,0⟩:GPlate) 0).bind fun v2=>some ((((aB .eql v1.2.2 0)&&(aB .eql v2.2.2 0))&&v1.2.1)&&(!v2.2.1))
def xQ (N:Nat) (x0:Str) (s1:Int):Option (Int ⊕ (Unit ⊕ Bool)) :=
  bif (aB .lss s1 (List.length x0:Int)) then ((idx x0 s1).bind fun v2=>bif ((!(((aB .geq ((UInt8.toNat v2:Nat):Int) 97)&&(aB .leq ((UInt8.toNat v2:Nat):Int) 122))||((aB .geq ((UInt8.toNat v2:Nat):Int) 65)&&(aB .leq ((UInt8.toNat v2:Nat):Int) 90))))&&((aB .eql s1 0)||((aB .neq ((UInt8.toNat v2:Nat):Int) 45)&&((aB .lss ((UInt8.toNat v2:Nat):Int) 48)||(aB .gtr ((UInt8.toNat v2:Nat):Int) 57))))) then (some (.inr (Sum.inr false))) else (some (.inl (IntKind.i64.wrap (s1+1))))) else (some (.inr (Sum.inl ())))
def yh (N:Nat) (x0:Str):Option (Bool) :=
  bif ((aB .lss (List.length x0:Int) 1)||(aB .gtr (List.length x0:Int) 12)) then (some false) else ((aX (xQ N x0) N 0).bind fun o5=>Sum.elim (fun l7=>some true) (fun r8=>some r8) o5)
def kJ (N:Nat) (x0:Int) (x1:Int) (x2:Int):Option (Bool) :=
  some ((aB .geq x0 x1)&&(aB .leq x0 x2))
def kX (N:Nat) (x0:(List bC)) (s1:Int) (s4:Int):Option (Int ⊕ (Unit ⊕ Int)) :=
  bif (aB .lss s4 s1) then ((idx x0 s4).bind fun v5=>(idx x0 s1).bind fun v6=>bif (Tj .eql v5.Name v6.Name) then (some (.inr (Sum.inr 5))) else (some (.inl (IntKind.i64.wrap (s4+1))))) else (some (.inr (Sum.inl ())))
def kW (N:Nat) (x0:(List bC)) (s1:Int):Option (Int ⊕ (Unit ⊕ Int)) :=
  bif (aB .lss s1 (List.length x0:Int)) then ((idx x0 s1).bind fun v2=>(yh N v2.Name).bind fun v3=>bif (!v3) then (some (.inr (Sum.inr 4))) else ((aX (kX N x0 s1) N 0).bind fun o9=>Sum.elim (fun Ws=>(idx x0 s1).bind fun v13=>(kJ N v13.W 1 100000).bind fun v14=>(bif (!(!v14)) then (idx x0 s1) else some (⟨[],0,0,false⟩:bC)).bind fun v15=>(bif (!(!v14)) then (kJ N v15.H 1 100000) else some false).bind fun v16=>bif ((!v14)||(!v16)) then (some (.inr (Sum.inr 2))) else (some (.inl (IntKind.i64.wrap (s1+1))))) (fun r12=>some (.inr (Sum.inr r12))) o9)) else (some (.inr (Sum.inl ())))
def pz (N:Nat) (x0:(List bC)):Option (Int) :=
  (aX (kW N x0) N 0).bind fun Oj=>Sum.elim (fun l23=>some 0) (fun r24=>some r24) Oj
def kK (N:Nat) (x0:GPlate):Option (Int) :=
  (kJ N x0.W 1 100000).bind fun v1=>(bif (!(!v1)) then (kJ N x0.H 1 100000) else some false).bind fun v2=>(bif (!((!v1)||(!v2))) then (kJ N x0.Price 0 1000000000) else some false).bind fun v3=>bif (((!v1)||(!v2))||(!v3)) then (some 2) else (some 0)
def mJ (N:Nat) (x0:Int):Option (Int) :=
  (kJ N x0 0 100).bind fun v1=>bif (!v1) then (some 2) else (some 0)
def lC (N:Nat) (x1:(List GPlate)) (s2:Int):Option (Int ⊕ (Unit ⊕ Int)) :=
  bif (aB .lss s2 (List.length x1:Int)) then ((idx x1 s2).bind fun v3=>(kK N v3).bind fun v4=>bif (aB .neq v4 0) then (some (.inr (Sum.inr v4))) else (some (.inl (IntKind.i64.wrap (s2+1))))) else (some (.inr (Sum.inl ())))
def nN (N:Nat) (x0:(List bC)) (x1:(List GPlate)) (x2:Int):Option (Int) :=
  bif ((aB .gtr (List.length x0:Int) 6)||(aB .gtr (List.length x1:Int) 3)) then (some 8) else ((pz N x0).bind fun v1=>bif (aB .neq v1 0) then (some v1) else ((aX (lC N x1) N 0).bind fun o7=>Sum.elim (fun l9=>(mJ N x2).bind fun v11=>some v11) (fun r10=>some r10) o7))
def jP (N:Nat) (x1:(List GPlate)) (Jk:(List (List (List af)))) (s12:((List aN)×Int)) (s13:((List aN)×Int)) (s14:((List aN)×Int)):Option (((List aN)×Int) ⊕ (List aN)) :=
  bif (aB .lss s14.2 (List.length x1:Int)) then ((idx x1 s14.2).bind fun v15=>(idx s14.1 (iY .xor .i64 s12.2 s13.2)).bind fun v16=>(idx Jk s14.2).bind fun v17=>(qj N v17 s13.2).bind fun v18=>(bif (!((!v18.2)||(!v16.Ah))) then (idx s14.1 s12.2) else some (⟨0,(⟨0,(⟨0,false,false,0,[],[]⟩:bV)⟩:dR),0,false⟩:aN)).bind fun v19=>(bif ((!((!v18.2)||(!v16.Ah)))&&v19.Ah) then (idx s14.1 s12.2) else some (⟨0,(⟨0,(⟨0,false,false,0,[],[]⟩:bV)⟩:dR),0,false⟩:aN)).bind fun v20=>bif (((!v18.2)||(!v16.Ah))||(v19.Ah&&(aB .leq v20.price (IntKind.i64.wrap (v16.price+v15.Price))))) then (some (.inl (s14.1,(IntKind.i64.wrap (s14.2+1))))) else ((idx s14.1 s12.2).bind fun v21=>some (.inl ((List.set s14.1 (Int.toNat s12.2) (⟨(IntKind.i64.wrap (v16.price+v15.Price)),(⟨s14.2,v18.1⟩:dR),(iY .xor .i64 s12.2 s13.2),true⟩:aN)),(IntKind.i64.wrap (s14.2+1)))))) else (some (.inr s14.1))
def nR (N:Nat) (x1:(List GPlate)) (Jk:(List (List (List af)))) (s12:((List aN)×Int)) (s13:((List aN)×Int)):Option (((List aN)×Int) ⊕ (List aN)) :=
  bif (aB .gtr s13.2 0) then ((aX (jP N x1 Jk s12 s13) N (s13.1,0)).bind fun o24=>some (.inl (o24,(iY .and .i64 (IntKind.i64.wrap (s13.2 - 1)) s12.2)))) else (some (.inr s13.1))
def kT (N:Nat) (o32:(List aN)) (Wh:((List dR)×Int)):Option (((List dR)×Int) ⊕ (List dR)) :=
  bif (aB .gtr Wh.2 0) then ((idx o32 Wh.2).bind fun v36=>(app Wh.1 [v36.LZ]).bind fun v37=>(idx o32 Wh.2).bind fun v38=>some (.inl (v37,v38.rest))) else (some (.inr Wh.1))
def nP (N:Nat) (x1:(List GPlate)) (v2:Int) (Jk:(List (List (List af)))) (s12:((List aN)×Int)):Option (((List aN)×Int) ⊕ (List aN)) :=
  bif (aB .leq s12.2 (IntKind.i64.wrap (v2 - 1))) then ((aX (nR N x1 Jk s12) N (s12.1,s12.2)).bind fun XM=>some (.inl (XM,(IntKind.i64.wrap (s12.2+1))))) else (some (.inr s12.1))
def nO (N:Nat) (x0:(List bC)) (x1:(List GPlate)) (x2:Int) (s5:((List (List (List af)))×Int)):Option (((List (List (List af)))×Int) ⊕ (List (List (List af)))) :=
  bif (aB .lss s5.2 (List.length x1:Int)) then ((idx x1 s5.2).bind fun v6=>(oQ N x0 v6.W v6.H x2).bind fun v7=>(app s5.1 [v7]).bind fun v8=>some (.inl (v8,(IntKind.i64.wrap (s5.2+1))))) else (some (.inr s5.1))
def lZ (N:Nat) (x0:(List bC)) (x1:(List GPlate)) (x2:Int):Option ((List dR)×Int×Int) :=
  (jS N x0 x1 x2).bind fun v1=>bif (aB .neq v1 0) then (some ([],0,v1)) else ((yS .i64 1 (List.length x0:Int)).bind fun v2=>(mk (⟨0,(⟨0,(⟨0,false,false,0,[],[]⟩:bV)⟩:dR),0,false⟩:aN) (IntKind.i64.wrap ((IntKind.i64.wrap (v2 - 1))+1)) (IntKind.i64.wrap ((IntKind.i64.wrap (v2 - 1))+1))).bind fun v3=>(idx v3 0).bind fun v4=>(aX (nO N x0 x1 x2) N ([],0)).bind fun Jk=>(aX (nP N x1 v2 Jk) N ((List.set v3 (Int.toNat 0) ({ v4 with Ah:=true }:aN)),1)).bind fun o32=>(idx o32 (IntKind.i64.wrap (v2 - 1))).bind fun v34=>bif (!v34.Ah) then (some ([],0,29)) else ((aX (kT N o32) N ([],(IntKind.i64.wrap (v2 - 1)))).bind fun o40=>(idx o32 (IntKind.i64.wrap (v2 - 1))).bind fun v42=>some (o40,v42.price,0)))
def pW (N:Nat) (rc:bV→Int→Option (Int)) (x0:bV) (x1:Int) (s7:(Int×Int)):Option ((Int×Int) ⊕ Int) :=
  bif ((aB .lss s7.2 (List.length x0.Rest:Int))&&(aB .leq s7.1 x1)) then ((idx x0.Rest s7.2).bind fun v8=>(rc v8 (IntKind.i64.wrap (x1 - s7.1))).bind fun v9=>some (.inl ((IntKind.i64.wrap (s7.1+v9)),(IntKind.i64.wrap (s7.2+1))))) else (some (.inr s7.1))
def pV (N:Nat) (rc:bV→Int→Option (Int)) (x0:bV) (x1:Int) (s1:(Int×Int)):Option ((Int×Int) ⊕ Int) :=
  bif ((aB .lss s1.2 (List.length x0.First:Int))&&(aB .leq s1.1 x1)) then ((idx x0.First s1.2).bind fun v2=>(rc v2 (IntKind.i64.wrap (x1 - s1.1))).bind fun v3=>some (.inl ((IntKind.i64.wrap (s1.1+v3)),(IntKind.i64.wrap (s1.2+1))))) else (some (.inr s1.1))
def tZ (N:Nat) (rc:bV→Int→Option (Int)) (x0:bV) (x1:Int):Option (Int) :=
  (aX (pV N rc x0 x1) N (1,0)).bind fun o5=>(aX (pW N rc x0 x1) N (o5,0)).bind fun En=>some En
def jQ (N:Nat):bV→Int→Option (Int) :=
  match N with
  | 0=>fun _ _=>none
  | N+1=>fun x0 x1=>tZ N (jQ N) x0 x1
def rM (N:Nat) (rc:bV→bg→Int→Option ((List cO)×Bool)) (x0:bV) (x1:bg) (x2:Int):Option ((List cO)×Bool) :=
  bif (((aB .lss x1.W 1)||(aB .lss x1.H 1))||(aB .lss x0.Piece (-1))) then (some ([],false)) else (bif (aB .eql (IntKind.i64.wrap ((List.length x0.First:Int)+(List.length x0.Rest:Int))) 0) then (bif (((aB .neq x0.At 0)||x0.nS)||((aB .eql x0.Piece (-1))&&x0.Turned)) then (some ([],(((aB .eql x0.At 0)&&(!x0.nS))&&(aB .eql x0.Piece (-1))))) else (bif (aB .eql x0.Piece (-1)) then (some ([],true)) else (some ([(⟨x0.Piece,x0.Turned,x1⟩:cO)],true)))) else (bif ((((((aB .neq (List.length x0.First:Int) 1)||(aB .neq (List.length x0.Rest:Int) 1))||(aB .neq x0.Piece (-1)))||x0.Turned)||(aB .lss x0.At 1))||(aB .gtr x0.At 200000)) then (some ([],false)) else (((bif x0.nS then (some (({ x1 with H:=x0.At }:bg),({ ({ x1 with H:=(IntKind.i64.wrap ((IntKind.i64.wrap (x1.H - x0.At)) - x2)) }:bg) with Y:=(IntKind.i64.wrap ((IntKind.i64.wrap (x1.Y+x0.At))+x2)) }:bg))) else (some (({ x1 with W:=x0.At }:bg),({ ({ x1 with W:=(IntKind.i64.wrap ((IntKind.i64.wrap (x1.W - x0.At)) - x2)) }:bg) with X:=(IntKind.i64.wrap ((IntKind.i64.wrap (x1.X+x0.At))+x2)) }:bg)))):Option (bg×bg)).bind fun o4=>(idx x0.First 0).bind fun v6=>(rc v6 o4.1 x2).bind fun v7=>(idx x0.Rest 0).bind fun v8=>(rc v8 o4.2 x2).bind fun v9=>(app v7.1 v9.1).bind fun v10=>some (v10,(v7.2&&v9.2)))))
def jA (N:Nat):bV→bg→Int→Option ((List cO)×Bool) :=
  match N with
  | 0=>fun _ _ _=>none
  | N+1=>fun x0 x1 x2=>rM N (jA N) x0 x1 x2
def iG (N:Nat) (s5:((List cO)×(List bg))) (s6:(Int×Int)):Option ((Int×Int) ⊕ Int) :=
  bif (aB .lss s6.2 (List.length s5.1:Int)) then ((idx s5.1 s6.2).bind fun v7=>(idx s5.1 s6.1).bind fun v8=>bif (aB .lss v7.Piece v8.Piece) then (some (.inl (s6.2,(IntKind.i64.wrap (s6.2+1))))) else (some (.inl (s6.1,(IntKind.i64.wrap (s6.2+1)))))) else (some (.inr s6.1))
def ja (N:Nat) (s5:((List cO)×(List bg))):Option (((List cO)×(List bg)) ⊕ (List bg)) :=
  bif (aB .gtr (List.length s5.1:Int) 0) then ((aX (iG N s5) N (0,0)).bind fun En=>(idx s5.1 En).bind fun v13=>(app s5.2 [v13.NC]).bind fun v14=>(MB s5.1 0 En).bind fun v15=>(app ([]:(List cO)) v15).bind fun v16=>(MB s5.1 (IntKind.i64.wrap (En+1)) (List.length s5.1:Int)).bind fun v17=>(app v16 v17).bind fun v18=>some (.inl (v18,v14))) else (some (.inr s5.2))
def qL (N:Nat) (x0:GPlate) (x1:bV) (x2:Int):Option ((List bg)×Int) :=
  (kK N x0).bind fun v1=>(bif (!(aB .neq v1 0)) then (mJ N x2) else some 0).bind fun v2=>bif ((aB .neq v1 0)||(aB .neq v2 0)) then (some ([],2)) else ((jQ N x1 200).bind fun v3=>bif (aB .gtr v3 200) then (some ([],8)) else ((jA N x1 (⟨0,0,x0.W,x0.H⟩:bg) x2).bind fun v4=>bif (!v4.2) then (some ([],3)) else ((aX (ja N) N (v4.1,[])).bind fun Oj=>some (Oj,0))))
def wZ (N:Nat) (x0:bC) (x1:cO):Option (Bool) :=
  bif x1.Turned then (some (((x0.Turn||(!x1.Turned))&&(aB .geq x1.NC.W x0.H))&&(aB .geq x1.NC.H x0.W))) else (some (((x0.Turn||(!x1.Turned))&&(aB .geq x1.NC.W x0.W))&&(aB .geq x1.NC.H x0.H)))
def jG (N:Nat) (x0:(List bC)) (v11:((List cO)×Bool)) (s12:(Bool×(List Int)×Int)):Option ((Bool×(List Int)×Int) ⊕ (Bool×(List Int))) :=
  bif (aB .lss s12.2.2 (List.length v11.1:Int)) then ((idx v11.1 s12.2.2).bind fun v13=>(bif (!(aB .geq v13.Piece (List.length x0:Int))) then (idx x0 v13.Piece) else some (⟨[],0,0,false⟩:bC)).bind fun v14=>(bif (!(aB .geq v13.Piece (List.length x0:Int))) then (idx v11.1 s12.2.2) else some (⟨0,false,(⟨0,0,0,0⟩:bg)⟩:cO)).bind fun v15=>(bif (!(aB .geq v13.Piece (List.length x0:Int))) then (wZ N v14 v15) else some false).bind fun v16=>bif ((aB .geq v13.Piece (List.length x0:Int))||(!v16)) then (some (.inl (false,s12.2.1,(IntKind.i64.wrap (s12.2.2+1))))) else ((idx s12.2.1 v13.Piece).bind fun v17=>(idx s12.2.1 v13.Piece).bind fun v18=>some (.inl (s12.1,(List.set s12.2.1 (Int.toNat v13.Piece) (IntKind.i64.wrap (v17+1))),(IntKind.i64.wrap (s12.2.2+1)))))) else (some (.inr (s12.1,s12.2.1)))
def jH (N:Nat) (TU:(Int×Bool×(List Int))) (Wi:(Bool×Int)):Option ((Bool×Int) ⊕ Bool) :=
  bif (aB .lss Wi.2 (List.length TU.2.2:Int)) then ((bif Wi.1 then (idx TU.2.2 Wi.2) else some 0).bind fun v32=>some (.inl ((Wi.1&&(aB .eql v32 1)),(IntKind.i64.wrap (Wi.2+1))))) else (some (.inr Wi.1))
def iZ (N:Nat) (x0:(List bC)) (x1:(List GPlate)) (x2:(List dR)) (x3:Int) (s3:(Int×Bool×(List Int)×Int)):Option ((Int×Bool×(List Int)×Int) ⊕ ((Int×Bool×(List Int)) ⊕ (Int×Int))) :=
  bif (aB .lss s3.2.2.2 (List.length x2:Int)) then ((idx x2 s3.2.2.2).bind fun v4=>(bif (!(aB .lss v4.sF 0)) then (idx x2 s3.2.2.2) else some (⟨0,(⟨0,false,false,0,[],[]⟩:bV)⟩:dR)).bind fun v5=>bif ((aB .lss v4.sF 0)||(aB .geq v5.sF (List.length x1:Int))) then (some (.inr (Sum.inr (0,6)))) else ((idx x2 s3.2.2.2).bind fun v6=>(idx x1 v6.sF).bind fun v7=>(idx x2 s3.2.2.2).bind fun v8=>(qL N v7 v8.wS x3).bind fun v9=>bif (aB .neq v9.2 0) then (some (.inr (Sum.inr (0,v9.2)))) else ((idx x2 s3.2.2.2).bind fun v10=>(jA N v10.wS (⟨0,0,v7.W,v7.H⟩:bg) x3).bind fun v11=>(aX (jG N x0 v11) N (s3.2.1,s3.2.2.1,0)).bind fun Oj=>some (.inl ((IntKind.i64.wrap (s3.1+v7.Price)),Oj.1,Oj.2,(IntKind.i64.wrap (s3.2.2.2+1))))))) else (some (.inr (Sum.inl (s3.1,s3.2.1,s3.2.2.1))))
def pq (N:Nat) (x0:(List bC)) (x1:(List GPlate)) (x2:(List dR)) (x3:Int):Option (Int×Int) :=
  (nN N x0 x1 x3).bind fun v1=>bif (aB .neq v1 0) then (some (0,v1)) else (bif (aB .gtr (List.length x2:Int) 6) then (some (0,8)) else ((mk 0 (List.length x0:Int) (List.length x0:Int)).bind fun v2=>(aX (iZ N x0 x1 x2 x3) N (0,true,v2,0)).bind fun Jh=>Sum.elim (fun TU=>(aX (jH N TU) N (TU.2.1,0)).bind fun OD=>bif (!OD) then (some (0,24)) else (some (TU.1,0))) (fun r30=>some (r30.1,r30.2)) Jh))
def eH (N:Nat) (rc:bV→Option (Int)) (v2:(List bV)) (s3:(Int×Int)):Option ((Int×Int) ⊕ (Int ⊕ Int)) :=
  bif (aB .lss s3.2 (List.length v2:Int)) then ((idx v2 s3.2).bind fun v4=>bif (aB .gtr s3.1 200) then (some (.inr (Sum.inr s3.1))) else ((rc v4).bind fun v5=>some (.inl ((IntKind.i64.wrap (s3.1+v5)),(IntKind.i64.wrap (s3.2+1)))))) else (some (.inr (Sum.inl s3.1)))
def fJ (N:Nat) (rc:bV→Option (Int)) (x0:bV) (s1:(Int×Int)):Option ((Int×Int) ⊕ (Int ⊕ Int)) :=
  bif (aB .lss s1.2 2) then ((idx [x0.First,x0.Rest] s1.2).bind fun v2=>(aX (eH N rc v2) N (s1.1,0)).bind fun o8=>Sum.elim (fun l10=>some (.inl (l10,(IntKind.i64.wrap (s1.2+1))))) (fun r11=>some (.inr (Sum.inr r11))) o8) else (some (.inr (Sum.inl s1.1)))
def ng (N:Nat) (rc:bV→Option (Int)) (x0:bV):Option (Int) :=
  (aX (fJ N rc x0) N (1,0)).bind fun ED=>Sum.elim (fun Yk=>some Yk) (fun V8=>some V8) ED
def fG (N:Nat):bV→Option (Int) :=
  match N with
  | 0=>fun _=>none
  | N+1=>fun x0=>ng N (fG N) x0
def qJ (N:Nat) (rc:(List ah)→bV→bg→Int→Option ((List ah)×Bool)) (x0:(List ah)) (x1:bV) (x2:bg) (x3:Int):Option ((List ah)×Bool) :=
  bif ((aB .eql (List.length x1.First:Int) 0)&&(aB .eql (List.length x1.Rest:Int) 0)) then (bif (((aB .neq x1.At 0)||x1.nS)||(aB .lss x1.Piece (-1))) then (some (x0,false)) else (((bif (aB .geq x1.Piece 0) then ((app x0 [(⟨x1.Piece,x1.Turned,x2⟩:ah)]).bind fun v1=>some v1) else (some x0)):Option (List ah)).bind fun o3=>some (o3,true))) else (bif (((((aB .neq (List.length x1.First:Int) 1)||(aB .neq (List.length x1.Rest:Int) 1))||(aB .neq x1.Piece (-1)))||x1.Turned)||(aB .leq x1.At 0)) then (some (x0,false)) else (((bif x1.nS then (bif (aB .gtr x1.At (IntKind.i64.wrap ((IntKind.i64.wrap (x2.H - x3)) - 1))) then (some (Sum.inr (x0,false))) else (some (Sum.inl (({ x2 with H:=x1.At }:bg),({ ({ x2 with Y:=(IntKind.i64.wrap ((IntKind.i64.wrap (x2.Y+x1.At))+x3)) }:bg) with H:=(IntKind.i64.wrap ((IntKind.i64.wrap (x2.H - x1.At)) - x3)) }:bg))))) else (bif (aB .gtr x1.At (IntKind.i64.wrap ((IntKind.i64.wrap (x2.W - x3)) - 1))) then (some (Sum.inr (x0,false))) else (some (Sum.inl (({ x2 with W:=x1.At }:bg),({ ({ x2 with X:=(IntKind.i64.wrap ((IntKind.i64.wrap (x2.X+x1.At))+x3)) }:bg) with W:=(IntKind.i64.wrap ((IntKind.i64.wrap (x2.W - x1.At)) - x3)) }:bg)))))):Option ((bg×bg) ⊕ ((List ah)×Bool))).bind fun o9=>Sum.elim (fun Ws=>(idx x1.First 0).bind fun v13=>(rc x0 v13 Ws.1 x3).bind fun v14=>bif (!v14.2) then (some (v14.1,false)) else ((idx x1.Rest 0).bind fun v15=>(rc v14.1 v15 Ws.2 x3).bind fun v16=>some (v16.1,v16.2))) (fun r12=>some (r12.1,r12.2)) o9))
def jM (N:Nat):(List ah)→bV→bg→Int→Option ((List ah)×Bool) :=
  match N with
  | 0=>fun _ _ _ _=>none
  | N+1=>fun x0 x1 x2 x3=>qJ N (jM N) x0 x1 x2 x3
def lF (N:Nat) (x0:GPlate) (x1:bV) (x2:Int):Option ((List ah)×Int) :=
  (mQ N x0).bind fun v1=>(bif (!(aB .neq v1 0)) then (kN N 0 100 [x2]) else some false).bind fun v2=>bif ((aB .neq v1 0)||(!v2)) then (some ([],2)) else ((fG N x1).bind fun v3=>bif (aB .gtr v3 200) then (some ([],8)) else ((jM N ([]:(List ah)) x1 (⟨0,0,x0.W,x0.H⟩:bg) x2).bind fun v4=>bif (!v4.2) then (some ([],3)) else (some (v4.1,0))))
def vT (N:Nat) (x0:(List bC)) (x1:ah):Option (Bool) :=
  bif (aB .geq x1.piece (List.length x0:Int)) then (some false) else ((idx x0 x1.piece).bind fun v1=>bif x1.turned then (some ((v1.Turn&&(aB .geq x1.xR.W v1.H))&&(aB .geq x1.xR.H v1.W))) else (some ((aB .geq x1.xR.W v1.W)&&(aB .geq x1.xR.H v1.H))))
def kS (N:Nat) (x0:Int):Option (Bool) :=
  some (aB .neq x0 1)
def jf (N:Nat) (x0:(List bC)) (Uj:(Int×(List ah))) (s16:((List Int)×Int)):Option (((List Int)×Int) ⊕ ((List Int) ⊕ (Int×Int))) :=
  bif (aB .lss s16.2 (List.length Uj.2:Int)) then ((idx Uj.2 s16.2).bind fun v17=>(vT N x0 v17).bind fun v18=>bif (!v18) then (some (.inr (Sum.inr (0,24)))) else ((idx s16.1 v17.piece).bind fun v19=>(idx s16.1 v17.piece).bind fun v20=>some (.inl ((List.set s16.1 (Int.toNat v17.piece) (IntKind.i64.wrap (v19+1))),(IntKind.i64.wrap (s16.2+1)))))) else (some (.inr (Sum.inl s16.1)))
def iK (N:Nat) (x1:(List GPlate)) (x2:(List dR)) (x3:Int) (s2:(Int×(List ah)×Int)):Option ((Int×(List ah)×Int) ⊕ ((Int×(List ah)) ⊕ (Int×Int))) :=
  bif (aB .lss s2.2.2 (List.length x2:Int)) then ((idx x2 s2.2.2).bind fun v3=>bif ((aB .lss v3.sF 0)||(aB .geq v3.sF (List.length x1:Int))) then (some (.inr (Sum.inr (0,6)))) else ((idx x1 v3.sF).bind fun v4=>(lF N v4 v3.wS x3).bind fun v5=>bif (aB .neq v5.2 0) then (some (.inr (Sum.inr (0,v5.2)))) else ((app s2.2.1 v5.1).bind fun v6=>(idx x1 v3.sF).bind fun v7=>some (.inl ((IntKind.i64.wrap (s2.1+v7.Price)),v6,(IntKind.i64.wrap (s2.2.2+1))))))) else (some (.inr (Sum.inl (s2.1,s2.2.1))))
def kC (N:Nat) (x0:(List bC)) (x1:(List GPlate)) (x2:(List dR)) (x3:Int):Option (Int×Int) :=
  (jS N x0 x1 x3).bind fun v1=>bif (aB .neq v1 0) then (some (0,v1)) else (bif (aB .gtr (List.length x2:Int) 6) then (some (0,8)) else ((aX (iK N x1 x2 x3) N (0,[],0)).bind fun En=>Sum.elim (fun Uj=>(mk 0 (List.length x0:Int) (List.length x0:Int)).bind fun v15=>(aX (jf N x0 Uj) N (v15,0)).bind fun o23=>Sum.elim (fun l25=>(iH N l25 (fun y0=>kS N y0)).bind fun v27=>bif v27 then (some (0,24)) else (some (Uj.1,0))) (fun r26=>some (r26.1,r26.2)) o23) (fun r14=>some (r14.1,r14.2)) En))
def sU (N:Nat) (s1:(Int×(List Int))):Option ((Int×(List Int)) ⊕ (List Int)) :=
  bif (aB .gtr s1.1 0) then ((app s1.2 [(IntKind.u16.wrap s1.1)]).bind fun v2=>(vG .u64 s1.1 16).bind fun v3=>some (.inl (v3,v2))) else (some (.inr s1.2))
def oO (N:Nat) (x0:Int):Option ((List Int)) :=
  (aX (sU N) N (x0,[])).bind fun o5=>some o5
def wu (N:Nat) (s1:(List Int)):Option ((List Int) ⊕ (List Int)) :=
  (bif (aB .gtr (List.length s1:Int) 0) then (idx s1 (IntKind.i64.wrap ((List.length s1:Int) - 1))) else some 0).bind fun v2=>bif ((aB .gtr (List.length s1:Int) 0)&&(aB .eql v2 0)) then ((MB s1 0 (IntKind.i64.wrap ((List.length s1:Int) - 1))).bind fun v3=>some (.inl v3)) else (some (.inr s1))
def jX (N:Nat) (x0:(List Int)):Option ((List Int)) :=
  (aX (wu N) N x0).bind fun o5=>some o5
def gX (N:Nat) (x0:(List Int)):Option ((List Int)) :=
  (app ([]:(List Int)) x0).bind fun v1=>some v1
def kD (N:Nat) (x0:Bool) (x1:(List Int)):Option (ig) :=
  (jX N x1).bind fun v1=>bif (aB .eql (List.length v1:Int) 0) then (some (⟨false,[]⟩:ig)) else ((gX N v1).bind fun v2=>some (⟨x0,v2⟩:ig))
def xP (N:Nat) (x0:Int):Option (ig) :=
  bif (aB .lss x0 0) then ((oO N (IntKind.u64.wrap (0 - (IntKind.u64.wrap x0)))).bind fun v1=>(kD N true v1).bind fun v2=>some v2) else ((oO N (IntKind.u64.wrap x0)).bind fun v3=>(kD N false v3).bind fun v4=>some v4)
def wz (N:Nat) (x0:(List Int)) (s1:(Int×Int)):Option ((Int×Int) ⊕ Int) :=
  bif (aB .geq s1.2 0) then ((yS .u64 s1.1 16).bind fun v2=>(idx x0 s1.2).bind fun v3=>some (.inl ((iY .or .u64 v2 (IntKind.u64.wrap v3)),(IntKind.i64.wrap (s1.2 - 1))))) else (some (.inr s1.1))
def pG (N:Nat) (x0:(List Int)):Option (Int×Bool) :=
  bif (aB .gtr (List.length x0:Int) 4) then (some (0,false)) else ((aX (wz N x0) N (0,(IntKind.i64.wrap ((List.length x0:Int) - 1)))).bind fun o5=>some (o5,true))
def qh (N:Nat) (x0:(List Int)) (x1:(List Int)) (s1:Int):Option (Int ⊕ (Unit ⊕ Int)) :=
  bif (aB .geq s1 0) then ((idx x0 s1).bind fun v2=>(idx x1 s1).bind fun v3=>bif (aB .neq v2 v3) then ((idx x0 s1).bind fun v4=>(idx x1 s1).bind fun v5=>some (.inr (Sum.inr (IntKind.i64.wrap ((IntKind.i64.wrap v4) - (IntKind.i64.wrap v5)))))) else (some (.inl (IntKind.i64.wrap (s1 - 1))))) else (some (.inr (Sum.inl ())))
def tY (N:Nat) (x0:(List Int)) (x1:(List Int)):Option (Int) :=
  bif (aB .neq (List.length x0:Int) (List.length x1:Int)) then (some (IntKind.i64.wrap ((List.length x0:Int) - (List.length x1:Int)))) else ((aX (qh N x0 x1) N (IntKind.i64.wrap ((List.length x0:Int) - 1))).bind fun o8=>Sum.elim (fun l10=>some 0) (fun r11=>some r11) o8)
def rJ (N:Nat) (x0:(List Int)) (x1:Int) (s2:((List Int)×Int×Int)):Option (((List Int)×Int×Int) ⊕ ((List Int)×Int)) :=
  bif (aB .geq s2.2.2 0) then ((yS .u32 s2.2.1 16).bind fun v3=>(idx x0 s2.2.2).bind fun v4=>(Fj .u32 (iY .or .u32 v3 (IntKind.u32.wrap v4)) (IntKind.u32.wrap x1)).bind fun v5=>(idx s2.1 s2.2.2).bind fun v6=>(KD (iY .or .u32 v3 (IntKind.u32.wrap v4)) (IntKind.u32.wrap x1)).bind fun v7=>some (.inl ((List.set s2.1 (Int.toNat s2.2.2) (IntKind.u16.wrap v5)),v7,(IntKind.i64.wrap (s2.2.2 - 1))))) else (some (.inr (s2.1,s2.2.1)))
def vU (N:Nat) (x0:(List Int)) (x1:Int):Option ((List Int)×Int) :=
  (mk 0 (List.length x0:Int) (List.length x0:Int)).bind fun v1=>(aX (rJ N x0 x1) N (v1,0,(IntKind.i64.wrap ((List.length x0:Int) - 1)))).bind fun o9=>(jX N o9.1).bind fun v11=>some (v11,(IntKind.u16.wrap o9.2))
def wY (N:Nat) (x0:Int):Option (Int) :=
  bif (aB .geq x0 256) then ((vG .u16 x0 8).bind fun v1=>(idx ([0,1,2,2,3,3,3,3,4,4,4,4,4,4,4,4,5,5,5,5,5,5,5,5,5,5,5,5,5,5,5,5,6,6,6,6,6,6,6,6,6,6,6,6,6,6,6,6,6,6,6,6,6,6,6,6,6,6,6,6,6,6,6,6,7,7,7,7,7,7,7,7,7,7,7,7,7,7,7,7,7,7,7,7,7,7,7,7,7,7,7,7,7,7,7,7,7,7,7,7,7,7,7,7,7,7,7,7,7,7,7,7,7,7,7,7,7,7,7,7,7,7,7,7,7,7,7,7,8,8,8,8,8,8,8,8,8,8,8,8,8,8,8,8,8,8,8,8,8,8,8,8,8,8,8,8,8,8,8,8,8,8,8,8,8,8,8,8,8,8,8,8,8,8,8,8,8,8,8,8,8,8,8,8,8,8,8,8,8,8,8,8,8,8,8,8,8,8,8,8,8,8,8,8,8,8,8,8,8,8,8,8,8,8,8,8,8,8,8,8,8,8,8,8,8,8,8,8,8,8,8,8,8,8,8,8,8,8,8,8,8,8,8,8,8,8,8,8,8,8,8,8,8,8,8,8]:Str) (IntKind.u8.wrap v1)).bind fun v2=>some (IntKind.i64.wrap (8+(IntKind.i64.wrap ((UInt8.toNat v2:Nat):Int))))) else ((idx ([0,1,2,2,3,3,3,3,4,4,4,4,4,4,4,4,5,5,5,5,5,5,5,5,5,5,5,5,5,5,5,5,6,6,6,6,6,6,6,6,6,6,6,6,6,6,6,6,6,6,6,6,6,6,6,6,6,6,6,6,6,6,6,6,7,7,7,7,7,7,7,7,7,7,7,7,7,7,7,7,7,7,7,7,7,7,7,7,7,7,7,7,7,7,7,7,7,7,7,7,7,7,7,7,7,7,7,7,7,7,7,7,7,7,7,7,7,7,7,7,7,7,7,7,7,7,7,7,8,8,8,8,8,8,8,8,8,8,8,8,8,8,8,8,8,8,8,8,8,8,8,8,8,8,8,8,8,8,8,8,8,8,8,8,8,8,8,8,8,8,8,8,8,8,8,8,8,8,8,8,8,8,8,8,8,8,8,8,8,8,8,8,8,8,8,8,8,8,8,8,8,8,8,8,8,8,8,8,8,8,8,8,8,8,8,8,8,8,8,8,8,8,8,8,8,8,8,8,8,8,8,8,8,8,8,8,8,8,8,8,8,8,8,8,8,8,8,8,8,8,8,8,8,8,8,8]:Str) (IntKind.u8.wrap x0)).bind fun v3=>some (IntKind.i64.wrap (0+(IntKind.i64.wrap ((UInt8.toNat v3:Nat):Int)))))
def nC (N:Nat) (x0:Int):Option (Int) :=
  (wY N x0).bind fun v1=>some (IntKind.i64.wrap (16 - v1))
def lM (N:Nat) (x0:(List Int)) (x1:Int) (s2:((List Int)×Int)):Option (((List Int)×Int) ⊕ (List Int)) :=
  bif (aB .lss s2.2 (List.length x0:Int)) then ((idx x0 s2.2).bind fun v3=>(yS .u32 (IntKind.u32.wrap v3) x1).bind fun v4=>(idx s2.1 s2.2).bind fun v5=>(idx s2.1 s2.2).bind fun v6=>(vG .u32 v4 16).bind fun v7=>(idx (List.set s2.1 (Int.toNat s2.2) (iY .or .u16 v5 (IntKind.u16.wrap v4))) (IntKind.i64.wrap (s2.2+1))).bind fun v8=>some (.inl ((List.set (List.set s2.1 (Int.toNat s2.2) (iY .or .u16 v5 (IntKind.u16.wrap v4))) (Int.toNat (IntKind.i64.wrap (s2.2+1))) (IntKind.u16.wrap v7)),(IntKind.i64.wrap (s2.2+1))))) else (some (.inr s2.1))
def mZ (N:Nat) (x0:(List Int)) (x1:Int):Option ((List Int)) :=
  (mk 0 (IntKind.i64.wrap ((List.length x0:Int)+1)) (IntKind.i64.wrap ((List.length x0:Int)+1))).bind fun v1=>(aX (lM N x0 x1) N (v1,0)).bind fun Jk=>some Jk
def nM (N:Nat) (x1:(List Int)) (Lp:((List Int)×Int×Int)):Option (((List Int)×Int×Int) ⊕ ((List Int)×Int)) :=
  bif (aB .lss Lp.2.2 (List.length x1:Int)) then ((idx Lp.1 Lp.2.2).bind fun v29=>(idx x1 Lp.2.2).bind fun v30=>(idx Lp.1 Lp.2.2).bind fun v31=>(vG .u32 (IntKind.u32.wrap (Lp.2.1+(IntKind.u32.wrap ((IntKind.u32.wrap v29)+(IntKind.u32.wrap v30))))) 16).bind fun v32=>some (.inl ((List.set Lp.1 (Int.toNat Lp.2.2) (IntKind.u16.wrap (IntKind.u32.wrap (Lp.2.1+(IntKind.u32.wrap ((IntKind.u32.wrap v29)+(IntKind.u32.wrap v30))))))),v32,(IntKind.i64.wrap (Lp.2.2+1))))) else (some (.inr (Lp.1,Lp.2.1)))
def nK (N:Nat) (x1:(List Int)) (ED:Int) (s16:((List Int)×Int×Int×Int)):Option (((List Int)×Int×Int×Int) ⊕ ((List Int)×Int)) :=
  bif (aB .lss s16.2.2.2 (IntKind.i64.wrap ((List.length x1:Int)+1))) then (((bif (aB .lss s16.2.2.2 (List.length x1:Int)) then ((idx x1 s16.2.2.2).bind fun v17=>some (IntKind.u64.wrap (s16.2.1+(IntKind.u64.wrap (ED * (IntKind.u64.wrap v17)))))) else (some s16.2.1)):Option Int).bind fun o19=>(vG .u64 o19 16).bind fun v21=>(idx s16.1 s16.2.2.2).bind fun v22=>(idx s16.1 s16.2.2.2).bind fun v23=>(vG .i64 (IntKind.i64.wrap ((IntKind.i64.wrap ((IntKind.i64.wrap v22) - (IntKind.i64.wrap (iY .and .u64 o19 65535))))+s16.2.2.1)) 16).bind fun v24=>some (.inl ((List.set s16.1 (Int.toNat s16.2.2.2) (IntKind.u16.wrap (IntKind.i64.wrap ((IntKind.i64.wrap ((IntKind.i64.wrap v22) - (IntKind.i64.wrap (iY .and .u64 o19 65535))))+s16.2.2.1)))),v21,v24,(IntKind.i64.wrap (s16.2.2.2+1))))) else (some (.inr (s16.1,s16.2.2.1)))
def pU (N:Nat) (x0:(List Int)) (x1:(List Int)) (s8:(Int×Int)):Option ((Int×Int) ⊕ Int) :=
  (bif ((aB .lss s8.2 65536)&&(!(aB .gtr s8.1 65535))) then (idx x1 (IntKind.i64.wrap ((List.length x1:Int) - 2))) else some 0).bind fun v9=>(bif ((aB .lss s8.2 65536)&&(!(aB .gtr s8.1 65535))) then (yS .u64 s8.2 16) else some 0).bind fun v10=>(bif ((aB .lss s8.2 65536)&&(!(aB .gtr s8.1 65535))) then (idx x0 (IntKind.i64.wrap ((List.length x1:Int) - 2))) else some 0).bind fun v11=>bif ((aB .lss s8.2 65536)&&((aB .gtr s8.1 65535)||(aB .gtr (IntKind.u64.wrap (s8.1 * (IntKind.u64.wrap v9))) (iY .or .u64 v10 (IntKind.u64.wrap v11))))) then ((idx x1 (IntKind.i64.wrap ((List.length x1:Int) - 1))).bind fun v12=>some (.inl ((IntKind.u64.wrap (s8.1 - 1)),(IntKind.u64.wrap (s8.2+(IntKind.u64.wrap v12)))))) else (some (.inr s8.1))
def uq (N:Nat) (x0:(List Int)) (x1:(List Int)):Option ((List Int)×Int) :=
  (idx x0 (List.length x1:Int)).bind fun v1=>(yS .u64 (IntKind.u64.wrap v1) 16).bind fun v2=>(idx x0 (IntKind.i64.wrap ((List.length x1:Int) - 1))).bind fun v3=>(idx x1 (IntKind.i64.wrap ((List.length x1:Int) - 1))).bind fun v4=>(Fj .u64 (iY .or .u64 v2 (IntKind.u64.wrap v3)) (IntKind.u64.wrap v4)).bind fun v5=>(idx x1 (IntKind.i64.wrap ((List.length x1:Int) - 1))).bind fun v6=>(KD (iY .or .u64 v2 (IntKind.u64.wrap v3)) (IntKind.u64.wrap v6)).bind fun v7=>(aX (pU N x0 x1) N (v5,v7)).bind fun ED=>(aX (nK N x1 ED) N (x0,0,0,0)).bind fun V9=>bif (aB .lss V9.2 0) then ((aX (nM N x1) N (V9.1,0,0)).bind fun OD=>(idx OD.1 (List.length x1:Int)).bind fun v36=>(idx OD.1 (List.length x1:Int)).bind fun v37=>some ((List.set OD.1 (Int.toNat (List.length x1:Int)) (IntKind.u16.wrap (v36+(IntKind.u16.wrap OD.2)))),(IntKind.u16.wrap (IntKind.u64.wrap (ED - 1))))) else (some (V9.1,(IntKind.u16.wrap ED)))
def oG (N:Nat) (v7:Int) (v10:(List Int)) (Qd:((List Int)×(List Int))) (s20:((List Int)×Int)):Option (((List Int)×Int) ⊕ (List Int)) :=
  bif (aB .lss s20.2 (List.length v10:Int)) then ((idx Qd.2 s20.2).bind fun v21=>(idx Qd.2 (IntKind.i64.wrap (s20.2+1))).bind fun v22=>(yS .u32 (IntKind.u32.wrap v22) 16).bind fun v23=>(vG .u32 (iY .or .u32 (IntKind.u32.wrap v21) v23) v7).bind fun v24=>(idx s20.1 s20.2).bind fun v25=>some (.inl ((List.set s20.1 (Int.toNat s20.2) (IntKind.u16.wrap v24)),(IntKind.i64.wrap (s20.2+1))))) else (some (.inr s20.1))
def oD (N:Nat) (v10:(List Int)) (s12:((List Int)×(List Int)×Int)):Option (((List Int)×(List Int)×Int) ⊕ ((List Int)×(List Int))) :=
  bif (aB .geq s12.2.2 0) then ((MB s12.2.1 s12.2.2 (IntKind.i64.wrap ((IntKind.i64.wrap (s12.2.2+(List.length v10:Int)))+1))).bind fun v13=>(uq N (List.take (Int.toNat (IntKind.i64.wrap ((IntKind.i64.wrap (s12.2.2+(List.length v10:Int)))+1)) - Int.toNat s12.2.2) (List.drop (Int.toNat s12.2.2) s12.2.1)) v10).bind fun v14=>(idx s12.1 s12.2.2).bind fun v15=>some (.inl ((List.set s12.1 (Int.toNat s12.2.2) v14.2),(List.take (Int.toNat s12.2.2) s12.2.1 ++ v14.1 ++ List.drop ((Int.toNat s12.2.2)+(Int.toNat (IntKind.i64.wrap ((IntKind.i64.wrap (s12.2.2+(List.length v10:Int)))+1)) - Int.toNat s12.2.2)) s12.2.1),(IntKind.i64.wrap (s12.2.2 - 1))))) else (some (.inr (s12.1,s12.2.1)))
def lG (N:Nat) (x0:(List Int)) (x1:(List Int)):Option ((List Int)×(List Int)) :=
  (tY N x0 x1).bind fun v1=>bif (aB .lss v1 0) then ((gX N x0).bind fun v2=>some ([],v2)) else (bif (aB .eql (List.length x1:Int) 1) then ((idx x1 0).bind fun v3=>(vU N x0 v3).bind fun v4=>(jX N [v4.2]).bind fun v5=>some (v4.1,v5)) else ((idx x1 (IntKind.i64.wrap ((List.length x1:Int) - 1))).bind fun v6=>(nC N v6).bind fun v7=>(mZ N x0 v7).bind fun v8=>(mZ N x1 v7).bind fun v9=>(MB v9 0 (List.length x1:Int)).bind fun v10=>(mk 0 (IntKind.i64.wrap ((List.length v8:Int) - (List.length v10:Int))) (IntKind.i64.wrap ((List.length v8:Int) - (List.length v10:Int)))).bind fun v11=>(aX (oD N v10) N (v11,v8,(IntKind.i64.wrap ((IntKind.i64.wrap ((List.length v8:Int) - (List.length v10:Int))) - 1)))).bind fun Qd=>(mk 0 (List.length v10:Int) (List.length v10:Int)).bind fun v19=>(aX (oG N v7 v10 Qd) N (v19,0)).bind fun Jh=>(jX N Qd.1).bind fun v29=>(jX N Jh).bind fun v30=>some (v29,v30)))
def uD (N:Nat) (s4:(Int×Int)):Option ((Int×Int) ⊕ Int) :=
  bif (aB .gtr s4.2 0) then ((KD s4.1 s4.2).bind fun v5=>some (.inl (s4.2,v5))) else (some (.inr s4.1))
def qI (N:Nat) (s1:((List Int)×(List Int))):Option (((List Int)×(List Int)) ⊕ ((List Int) ⊕ (List Int))) :=
  bif (aB .gtr (List.length s1.2:Int) 0) then ((pG N s1.1).bind fun v2=>(pG N s1.2).bind fun v3=>bif (v2.2&&v3.2) then ((aX (uD N) N (v2.1,v3.1)).bind fun o7=>(oO N o7).bind fun v9=>some (.inr (Sum.inr v9))) else ((lG N s1.1 s1.2).bind fun v11=>some (.inl (s1.2,v11.2)))) else (some (.inr (Sum.inl s1.1)))
def uJ (N:Nat) (x0:(List Int)) (x1:(List Int)):Option ((List Int)) :=
  (aX (qI N) N (x0,x1)).bind fun ED=>Sum.elim (fun Yk=>some Yk) (fun V8=>some V8) ED
def ru (N:Nat) (x0:ig) (x1:ig):Option (jq) :=
  (jX N x0.Limbs).bind fun v1=>(jX N x1.Limbs).bind fun v2=>(uJ N v1 v2).bind fun v3=>(bif (!(aB .neq (List.length v3:Int) 1)) then (idx v3 0) else some 0).bind fun v4=>bif ((aB .neq (List.length v3:Int) 1)||(aB .neq v4 1)) then ((lG N v1 v3).bind fun v5=>(lG N v2 v3).bind fun v6=>(kD N (!(x0.Neg == x1.Neg)) v5.1).bind fun v7=>(kD N false v6.1).bind fun v8=>some (⟨v7,v8⟩:jq)) else ((kD N (!(x0.Neg == x1.Neg)) v1).bind fun v9=>(kD N false v2).bind fun v10=>some (⟨v9,v10⟩:jq))
def vO (N:Nat) (x0:Int) (x1:Int):Option (jq×Int) :=
  bif (aB .eql x1 0) then (some ((⟨(⟨false,[]⟩:ig),(⟨false,[]⟩:ig)⟩:jq),9)) else ((xP N x0).bind fun v1=>(xP N x1).bind fun v2=>(ru N v1 v2).bind fun v3=>some (v3,0))
def rC (N:Nat) (x0:Int) (x1:Int):Option (jq) :=
  (vO N x0 x1).bind fun v1=>some v1.1
def nJ (N:Nat) (x1:(List GPlate)) (x2:(List dR)) (s7:(Int×Int)):Option ((Int×Int) ⊕ Int) :=
  bif (aB .lss s7.2 (List.length x2:Int)) then ((idx x2 s7.2).bind fun v8=>(idx x1 v8.sF).bind fun v9=>(idx x1 v8.sF).bind fun v10=>some (.inl ((IntKind.i64.wrap (s7.1+(IntKind.i64.wrap (v9.W * v10.H)))),(IntKind.i64.wrap (s7.2+1))))) else (some (.inr s7.1))
def nI (N:Nat) (x0:(List bC)) (s2:(Int×Int)):Option ((Int×Int) ⊕ Int) :=
  bif (aB .lss s2.2 (List.length x0:Int)) then ((idx x0 s2.2).bind fun v3=>some (.inl ((IntKind.i64.wrap (s2.1+(IntKind.i64.wrap (v3.W * v3.H)))),(IntKind.i64.wrap (s2.2+1))))) else (some (.inr s2.1))
def uo (N:Nat) (x0:(List bC)) (x1:(List GPlate)) (x2:(List dR)) (x3:Int):Option (jq×Int) :=
  (kC N x0 x1 x2 x3).bind fun v1=>bif (aB .neq v1.2 0) then (some ((⟨(⟨false,[]⟩:ig),(⟨false,[]⟩:ig)⟩:jq),v1.2)) else ((aX (nI N x0) N (0,0)).bind fun o5=>(aX (nJ N x1 x2) N (0,0)).bind fun yZ=>bif (aB .eql yZ 0) then ((rC N 0 1).bind fun v14=>some (v14,0)) else ((rC N o5 yZ).bind fun v15=>some (v15,0)))
def wo (N:Nat) (s1:(Int×(List Int))):Option ((Int×(List Int)) ⊕ (List Int)) :=
  bif (aB .gtr s1.1 0) then ((app s1.2 [(IntKind.u16.wrap (iY .and .u64 s1.1 65535))]).bind fun v2=>(vG .u64 s1.1 16).bind fun v3=>some (.inl (v3,v2))) else (some (.inr s1.2))
def uY (N:Nat) (x0:Int):Option ((List Int)) :=
  (aX (wo N) N (x0,[])).bind fun o5=>some o5
def Ba (N:Nat) (x0:Int):Option (ig) :=
  bif (aB .lss x0 0) then ((uY N (IntKind.u64.wrap ((IntKind.u64.wrap (IntKind.i64.wrap (0 - (IntKind.i64.wrap (x0+1)))))+1))).bind fun v1=>some (⟨true,v1⟩:ig)) else ((uY N (IntKind.u64.wrap x0)).bind fun v2=>some (⟨false,v2⟩:ig))
def Bc (N:Nat) (x0:Int):Option (jq) :=
  (Ba N x0).bind fun v1=>(Ba N 1).bind fun v2=>some (⟨v1,v2⟩:jq)
def tH (N:Nat) (x0:(List Int)) (s1:Int):Option (Int ⊕ Int) :=
  (bif (aB .gtr s1 0) then (idx x0 (IntKind.i64.wrap (s1 - 1))) else some 0).bind fun v2=>bif ((aB .gtr s1 0)&&(aB .eql v2 0)) then (some (.inl (IntKind.i64.wrap (s1 - 1)))) else (some (.inr s1))
def mG (N:Nat) (x0:(List Int)):Option ((List Int)) :=
  (aX (tH N x0) N (List.length x0:Int)).bind fun o4=>(MB x0 0 o4).bind fun v6=>(app ([]:(List Int)) v6).bind fun v7=>some v7
def qE (N:Nat) (x0:(List Int)) (s1:((List Int)×Int)):Option (((List Int)×Int) ⊕ (List Int)) :=
  bif (aB .lss s1.2 (List.length x0:Int)) then ((idx x0 s1.2).bind fun v2=>(app s1.1 [(IntKind.i64.wrap v2)]).bind fun v3=>some (.inl (v3,(IntKind.i64.wrap (s1.2+1))))) else (some (.inr s1.1))
def kQ (N:Nat) (x0:(List Int)):Option ((List Int)) :=
  (aX (qE N x0) N ([],0)).bind fun o5=>(mG N o5).bind fun v7=>some v7
def qF (N:Nat) (x1:(List Int)) (s1:(ig×Int)):Option ((ig×Int) ⊕ ig) :=
  bif (aB .lss s1.2 (List.length x1:Int)) then ((idx x1 s1.2).bind fun v2=>(app s1.1.Limbs [(IntKind.u16.wrap v2)]).bind fun v3=>some (.inl (({ s1.1 with Limbs:=v3 }:ig),(IntKind.i64.wrap (s1.2+1))))) else (some (.inr s1.1))
def kR (N:Nat) (x0:Bool) (x1:(List Int)):Option (ig) :=
  (aX (qF N x1) N ((⟨(x0&&(aB .gtr (List.length x1:Int) 0)),[]⟩:ig),0)).bind fun o5=>some o5
def vS (N:Nat) (s4:((List Int)×Int)):Option (((List Int)×Int) ⊕ (List Int)) :=
  bif (aB .gtr s4.2 0) then ((KD s4.2 65536).bind fun v5=>(app s4.1 [(IntKind.i64.wrap v5)]).bind fun v6=>(Fj .u64 s4.2 65536).bind fun v7=>some (.inl (v6,v7))) else (some (.inr s4.1))
def zF (N:Nat) (x0:Int):Option (ig) :=
  ((bif (aB .lss x0 0) then (some (IntKind.u64.wrap (0 - (IntKind.u64.wrap x0)))) else (some (IntKind.u64.wrap x0))):Option Int).bind fun o2=>(aX (vS N) N ([],o2)).bind fun o9=>(kR N (aB .lss x0 0) o9).bind fun v11=>some v11
def pM (N:Nat) (x0:(List Int)) (x1:Int):Option (Int) :=
  bif (aB .lss x1 (List.length x0:Int)) then ((idx x0 x1).bind fun v1=>some v1) else (some 0)
def rE (N:Nat) (x0:(List Int)) (x1:(List Int)) (s2:((List Int)×Int)) (s3:((List Int)×Int×Int)):Option (((List Int)×Int×Int) ⊕ (List Int)) :=
  bif ((aB .lss s3.2.2 (List.length x1:Int))||(aB .gtr s3.2.1 0)) then ((idx s3.1 (IntKind.i64.wrap (s2.2+s3.2.2))).bind fun v4=>(idx x0 s2.2).bind fun v5=>(pM N x1 s3.2.2).bind fun v6=>(KD (IntKind.i64.wrap ((IntKind.i64.wrap (v4+(IntKind.i64.wrap (v5 * v6))))+s3.2.1)) 65536).bind fun v7=>(idx s3.1 (IntKind.i64.wrap (s2.2+s3.2.2))).bind fun v8=>(Fj .i64 (IntKind.i64.wrap ((IntKind.i64.wrap (v4+(IntKind.i64.wrap (v5 * v6))))+s3.2.1)) 65536).bind fun v9=>some (.inl ((List.set s3.1 (Int.toNat (IntKind.i64.wrap (s2.2+s3.2.2))) v7),v9,(IntKind.i64.wrap (s3.2.2+1))))) else (some (.inr s3.1))
def rD (N:Nat) (x0:(List Int)) (x1:(List Int)) (s2:((List Int)×Int)):Option (((List Int)×Int) ⊕ (List Int)) :=
  bif (aB .lss s2.2 (List.length x0:Int)) then ((aX (rE N x0 x1 s2) N (s2.1,0,0)).bind fun En=>some (.inl (En,(IntKind.i64.wrap (s2.2+1))))) else (some (.inr s2.1))
def qV (N:Nat) (x0:(List Int)) (x1:(List Int)):Option ((List Int)) :=
  (mk 0 (IntKind.i64.wrap ((IntKind.i64.wrap ((List.length x0:Int)+(List.length x1:Int)))+1)) (IntKind.i64.wrap ((IntKind.i64.wrap ((List.length x0:Int)+(List.length x1:Int)))+1))).bind fun v1=>(aX (rD N x0 x1) N (v1,0)).bind fun Yc=>(mG N Yc).bind fun v17=>some v17
def qg (N:Nat) (x0:(List Int)) (x1:(List Int)) (s1:Int):Option (Int ⊕ (Unit ⊕ Int)) :=
  bif (aB .geq s1 0) then ((idx x0 s1).bind fun v2=>(idx x1 s1).bind fun v3=>bif (aB .neq v2 v3) then ((idx x0 s1).bind fun v4=>(idx x1 s1).bind fun v5=>some (.inr (Sum.inr (IntKind.i64.wrap (v4 - v5))))) else (some (.inl (IntKind.i64.wrap (s1 - 1))))) else (some (.inr (Sum.inl ())))
def qG (N:Nat) (x0:(List Int)) (x1:(List Int)):Option (Int) :=
  bif (aB .neq (List.length x0:Int) (List.length x1:Int)) then (some (IntKind.i64.wrap ((List.length x0:Int) - (List.length x1:Int)))) else ((aX (qg N x0 x1) N (IntKind.i64.wrap ((List.length x0:Int) - 1))).bind fun o8=>Sum.elim (fun l10=>some 0) (fun r11=>some r11) o8)
def rF (N:Nat) (x0:(List Int)) (x1:(List Int)) (s1:((List Int)×Int×Int)):Option (((List Int)×Int×Int) ⊕ (List Int)) :=
  bif (aB .lss s1.2.2 (List.length x0:Int)) then ((idx x0 s1.2.2).bind fun v2=>(pM N x1 s1.2.2).bind fun v3=>bif (aB .lss (IntKind.i64.wrap ((IntKind.i64.wrap (v2 - v3)) - s1.2.1)) 0) then ((app s1.1 [(IntKind.i64.wrap ((IntKind.i64.wrap ((IntKind.i64.wrap (v2 - v3)) - s1.2.1))+65536))]).bind fun v4=>some (.inl (v4,1,(IntKind.i64.wrap (s1.2.2+1))))) else ((app s1.1 [(IntKind.i64.wrap ((IntKind.i64.wrap (v2 - v3)) - s1.2.1))]).bind fun v5=>some (.inl (v5,0,(IntKind.i64.wrap (s1.2.2+1)))))) else (some (.inr s1.1))
def qW (N:Nat) (x0:(List Int)) (x1:(List Int)):Option ((List Int)) :=
  (aX (rF N x0 x1) N ([],0,0)).bind fun o8=>(mG N o8).bind fun v10=>some v10
def tK (N:Nat) (x1:(List Int)) (v20:(List Int)) (Ui:(Int×Int)):Option ((Int×Int) ⊕ Int) :=
  bif (aB .lss Ui.1 Ui.2) then ((Fj .i64 (IntKind.i64.wrap ((IntKind.i64.wrap (Ui.1+Ui.2))+1)) 2).bind fun v22=>(qV N x1 [v22]).bind fun v23=>(qG N v23 v20).bind fun v24=>bif (aB .leq v24 0) then (some (.inl (v22,Ui.2))) else (some (.inl (Ui.1,(IntKind.i64.wrap (v22 - 1)))))) else (some (.inr Ui.1))
def tJ (N:Nat) (x0:(List Int)) (x1:(List Int)) (Jj:((List Int)×(List Int)×Int)):Option (((List Int)×(List Int)×Int) ⊕ ((List Int)×(List Int))) :=
  bif (aB .geq Jj.2.2 0) then ((idx x0 Jj.2.2).bind fun v18=>(app [v18] Jj.1).bind fun v19=>(mG N v19).bind fun v20=>(aX (tK N x1 v20) N (0,65535)).bind fun Jh=>(idx Jj.2.1 Jj.2.2).bind fun v29=>bif (aB .gtr Jh 0) then ((qV N x1 [Jh]).bind fun v30=>(qW N v20 v30).bind fun v31=>some (.inl (v31,(List.set Jj.2.1 (Int.toNat Jj.2.2) Jh),(IntKind.i64.wrap (Jj.2.2 - 1))))) else (some (.inl (v20,(List.set Jj.2.1 (Int.toNat Jj.2.2) Jh),(IntKind.i64.wrap (Jj.2.2 - 1)))))) else (some (.inr (Jj.1,Jj.2.1)))
def sK (N:Nat) (x0:(List Int)) (x1:(List Int)):Option ((List Int)×(List Int)) :=
  (mk 0 (List.length x0:Int) (List.length x0:Int)).bind fun v1=>(aX (tJ N x0 x1) N ([],v1,(IntKind.i64.wrap ((List.length x0:Int) - 1)))).bind fun XK=>(mG N XK.2).bind fun v37=>some (v37,XK.1)
def uK (N:Nat) (s1:((List Int)×(List Int))):Option (((List Int)×(List Int)) ⊕ (List Int)) :=
  bif (aB .gtr (List.length s1.2:Int) 0) then ((sK N s1.1 s1.2).bind fun v2=>some (.inl (s1.2,v2.2))) else (some (.inr s1.1))
def yB (N:Nat) (x0:(List Int)) (x1:(List Int)):Option ((List Int)) :=
  (aX (uK N) N (x0,x1)).bind fun o4=>some o4
def sN (N:Nat) (x0:ig) (x1:ig):Option (jq) :=
  (kQ N x0.Limbs).bind fun v1=>(kQ N x1.Limbs).bind fun v2=>bif (aB .eql (List.length v2:Int) 0) then ((kR N x0.Neg v1).bind fun v3=>(zF N 1).bind fun v4=>some (⟨v3,v4⟩:jq)) else ((yB N v1 v2).bind fun v5=>(sK N v1 v5).bind fun v6=>(sK N v2 v5).bind fun v7=>(kR N (!(x0.Neg == x1.Neg)) v6.1).bind fun v8=>(kR N false v7.1).bind fun v9=>some (⟨v8,v9⟩:jq))
def mY (N:Nat) (x0:jq):Option (jq) :=
  (sN N x0.Num x0.Ol).bind fun v1=>some v1
def yC (N:Nat) (x0:ig):Option (ig) :=
  (kQ N x0.Limbs).bind fun v1=>(kR N (!x0.Neg) v1).bind fun v2=>some v2
def uM (N:Nat) (x0:jq):Option (jq) :=
  (mY N x0).bind fun v1=>(yC N v1.Num).bind fun v2=>some (⟨v2,v1.Ol⟩:jq)
def uN (N:Nat) (x0:ig) (x1:ig):Option (ig) :=
  (kQ N x0.Limbs).bind fun v1=>(kQ N x1.Limbs).bind fun v2=>(qV N v1 v2).bind fun v3=>(kR N (!(x0.Neg == x1.Neg)) v3).bind fun v4=>some v4
def tN (N:Nat) (x0:(List Int)) (x1:(List Int)) (s1:((List Int)×Int×Int)):Option (((List Int)×Int×Int) ⊕ (List Int)) :=
  bif (((aB .lss s1.2.2 (List.length x0:Int))||(aB .lss s1.2.2 (List.length x1:Int)))||(aB .gtr s1.2.1 0)) then ((pM N x0 s1.2.2).bind fun v2=>(pM N x1 s1.2.2).bind fun v3=>(KD (IntKind.i64.wrap ((IntKind.i64.wrap (v2+v3))+s1.2.1)) 65536).bind fun v4=>(app s1.1 [v4]).bind fun v5=>(Fj .i64 (IntKind.i64.wrap ((IntKind.i64.wrap (v2+v3))+s1.2.1)) 65536).bind fun v6=>some (.inl (v5,v6,(IntKind.i64.wrap (s1.2.2+1))))) else (some (.inr s1.1))
def wW (N:Nat) (x0:(List Int)) (x1:(List Int)):Option ((List Int)) :=
  (aX (tN N x0 x1) N ([],0,0)).bind fun o8=>(mG N o8).bind fun v10=>some v10
def yD (N:Nat) (x0:ig) (x1:ig):Option (ig) :=
  (kQ N x0.Limbs).bind fun v1=>(kQ N x1.Limbs).bind fun v2=>bif (x0.Neg == x1.Neg) then ((wW N v1 v2).bind fun v3=>(kR N x0.Neg v3).bind fun v4=>some v4) else ((qG N v1 v2).bind fun v5=>bif (aB .geq v5 0) then ((qW N v1 v2).bind fun v6=>(kR N x0.Neg v6).bind fun v7=>some v7) else ((qW N v2 v1).bind fun v8=>(kR N x1.Neg v8).bind fun v9=>some v9))
def uO (N:Nat) (x0:jq) (x1:jq):Option (jq) :=
  (mY N x0).bind fun v1=>(mY N x1).bind fun v2=>(uN N v1.Num v2.Ol).bind fun v3=>(uN N v2.Num v1.Ol).bind fun v4=>(yD N v3 v4).bind fun v5=>(uN N v1.Ol v2.Ol).bind fun v6=>(sN N v5 v6).bind fun v7=>some v7
def uP (N:Nat) (x0:jq) (x1:jq):Option (jq) :=
  (uM N x1).bind fun v1=>(uO N x0 v1).bind fun v2=>some v2
def wX (N:Nat) (x0:ig):Option (Int) :=
  (kQ N x0.Limbs).bind fun v1=>bif (aB .eql (List.length v1:Int) 0) then (some 0) else (bif x0.Neg then (some (-1)) else (some 1))
def tV (N:Nat) (x0:jq):Option (Int) :=
  (mY N x0).bind fun v1=>(wX N v1.Num).bind fun v2=>some v2
def rG (N:Nat) (x0:jq) (x1:jq):Option (Int) :=
  (uP N x0 x1).bind fun v1=>(tV N v1).bind fun v2=>some v2
def bY (N:Nat) (x1:Int) (x3:(ah→ah→Option Int)) (s2:((List ah)×Int)):Option (((List ah)×Int) ⊕ (List ah)) :=
  (bif (aB .gtr s2.2 x1) then (idx s2.1 s2.2) else some (⟨0,false,(⟨0,0,0,0⟩:bg)⟩:ah)).bind fun v3=>(bif (aB .gtr s2.2 x1) then (idx s2.1 (IntKind.i64.wrap (s2.2 - 1))) else some (⟨0,false,(⟨0,0,0,0⟩:bg)⟩:ah)).bind fun v4=>(bif (aB .gtr s2.2 x1) then (x3 v3 v4) else some 0).bind fun v5=>bif ((aB .gtr s2.2 x1)&&(aB .lss v5 0)) then ((idx s2.1 (IntKind.i64.wrap (s2.2 - 1))).bind fun v6=>(idx s2.1 s2.2).bind fun v7=>(idx s2.1 s2.2).bind fun v8=>(idx (List.set s2.1 (Int.toNat s2.2) v6) (IntKind.i64.wrap (s2.2 - 1))).bind fun v9=>some (.inl ((List.set (List.set s2.1 (Int.toNat s2.2) v6) (Int.toNat (IntKind.i64.wrap (s2.2 - 1))) v7),(IntKind.i64.wrap (s2.2 - 1))))) else (some (.inr s2.1))
def bW (N:Nat) (x1:Int) (x2:Int) (x3:(ah→ah→Option Int)) (s1:((List ah)×Int)):Option (((List ah)×Int) ⊕ (List ah)) :=
  bif (aB .lss s1.2 x2) then ((aX (bY N x1 x3) N (s1.1,s1.2)).bind fun En=>some (.inl (En,(IntKind.i64.wrap (s1.2+1))))) else (some (.inr s1.1))
def eU (N:Nat) (x0:(List ah)) (x1:Int) (x2:Int) (x3:(ah→ah→Option Int)):Option ((List ah)) :=
  (aX (bW N x1 x2 x3) N (x0,(IntKind.i64.wrap (x1+1)))).bind fun Yc=>some Yc
def dV (N:Nat) (x1:Int) (x2:Int) (x3:Int) (s1:((List ah)×Int)):Option (((List ah)×Int) ⊕ (List ah)) :=
  bif (aB .lss s1.2 x3) then ((idx s1.1 (IntKind.i64.wrap (x2+s1.2))).bind fun v2=>(idx s1.1 (IntKind.i64.wrap (x1+s1.2))).bind fun v3=>(idx s1.1 (IntKind.i64.wrap (x1+s1.2))).bind fun v4=>(idx (List.set s1.1 (Int.toNat (IntKind.i64.wrap (x1+s1.2))) v2) (IntKind.i64.wrap (x2+s1.2))).bind fun v5=>some (.inl ((List.set (List.set s1.1 (Int.toNat (IntKind.i64.wrap (x1+s1.2))) v2) (Int.toNat (IntKind.i64.wrap (x2+s1.2))) v3),(IntKind.i64.wrap (s1.2+1))))) else (some (.inr s1.1))
def fQ (N:Nat) (x0:(List ah)) (x1:Int) (x2:Int) (x3:Int) (x4:(ah→ah→Option Int)):Option ((List ah)) :=
  (aX (dV N x1 x2 x3) N (x0,0)).bind fun o7=>some o7
def dD (N:Nat) (x2:Int) (x4:(ah→ah→Option Int)) (s1:((List ah)×Int×Int)):Option (((List ah)×Int×Int) ⊕ ((List ah)×Int)) :=
  bif (aB .neq s1.2.1 s1.2.2) then (bif (aB .gtr s1.2.1 s1.2.2) then ((fQ N s1.1 (IntKind.i64.wrap (x2 - s1.2.1)) x2 s1.2.2 x4).bind fun v2=>some (.inl (v2,(IntKind.i64.wrap (s1.2.1 - s1.2.2)),s1.2.2))) else ((fQ N s1.1 (IntKind.i64.wrap (x2 - s1.2.1)) (IntKind.i64.wrap ((IntKind.i64.wrap (x2+s1.2.2)) - s1.2.1)) s1.2.1 x4).bind fun v3=>some (.inl (v3,s1.2.1,(IntKind.i64.wrap (s1.2.2 - s1.2.1)))))) else (some (.inr (s1.1,s1.2.1)))
def iD (N:Nat) (x0:(List ah)) (x1:Int) (x2:Int) (x3:Int) (x4:(ah→ah→Option Int)):Option ((List ah)) :=
  (aX (dD N x2 x4) N (x0,(IntKind.i64.wrap (x2 - x1)),(IntKind.i64.wrap (x3 - x2)))).bind fun o6=>(fQ N o6.1 (IntKind.i64.wrap (x2 - o6.2)) x2 o6.2 x4).bind fun v8=>some v8
def dK (N:Nat) (o8:Int) (s10:((List ah)×Int)):Option (((List ah)×Int) ⊕ (List ah)) :=
  bif (aB .lss s10.2 (IntKind.i64.wrap (o8 - 1))) then ((idx s10.1 (IntKind.i64.wrap (s10.2+1))).bind fun v11=>(idx s10.1 s10.2).bind fun v12=>(idx s10.1 s10.2).bind fun v13=>(idx (List.set s10.1 (Int.toNat s10.2) v11) (IntKind.i64.wrap (s10.2+1))).bind fun v14=>some (.inl ((List.set (List.set s10.1 (Int.toNat s10.2) v11) (Int.toNat (IntKind.i64.wrap (s10.2+1))) v12),(IntKind.i64.wrap (s10.2+1))))) else (some (.inr s10.1))
def gB (N:Nat) (x0:(List ah)) (x1:Int) (x4:(ah→ah→Option Int)) (s1:(Int×Int)):Option ((Int×Int) ⊕ Int) :=
  bif (aB .lss s1.1 s1.2) then ((vG .u64 (IntKind.u64.wrap (IntKind.i64.wrap (s1.1+s1.2))) 1).bind fun v2=>(idx x0 (IntKind.i64.wrap v2)).bind fun v3=>(idx x0 x1).bind fun v4=>(x4 v3 v4).bind fun v5=>bif (aB .lss v5 0) then (some (.inl ((IntKind.i64.wrap ((IntKind.i64.wrap v2)+1)),s1.2))) else (some (.inl (s1.1,(IntKind.i64.wrap v2))))) else (some (.inr s1.1))
def dL (N:Nat) (Jh:Int) (Ji:((List ah)×Int)):Option (((List ah)×Int) ⊕ (List ah)) :=
  bif (aB .gtr Ji.2 Jh) then ((idx Ji.1 (IntKind.i64.wrap (Ji.2 - 1))).bind fun v30=>(idx Ji.1 Ji.2).bind fun v31=>(idx Ji.1 Ji.2).bind fun v32=>(idx (List.set Ji.1 (Int.toNat Ji.2) v30) (IntKind.i64.wrap (Ji.2 - 1))).bind fun v33=>some (.inl ((List.set (List.set Ji.1 (Int.toNat Ji.2) v30) (Int.toNat (IntKind.i64.wrap (Ji.2 - 1))) v31),(IntKind.i64.wrap (Ji.2 - 1))))) else (some (.inr Ji.1))
def gG (N:Nat) (x0:(List ah)) (x2:Int) (x4:(ah→ah→Option Int)) (s20:(Int×Int)):Option ((Int×Int) ⊕ Int) :=
  bif (aB .lss s20.1 s20.2) then ((vG .u64 (IntKind.u64.wrap (IntKind.i64.wrap (s20.1+s20.2))) 1).bind fun v21=>(idx x0 x2).bind fun v22=>(idx x0 (IntKind.i64.wrap v21)).bind fun v23=>(x4 v22 v23).bind fun v24=>bif (!(aB .lss v24 0)) then (some (.inl ((IntKind.i64.wrap ((IntKind.i64.wrap v21)+1)),s20.2))) else (some (.inl (s20.1,(IntKind.i64.wrap v21))))) else (some (.inr s20.1))
def gJ (N:Nat) (x0:(List ah)) (x2:Int) (x4:(ah→ah→Option Int)) (v39:Int) (s43:(Int×Int)):Option ((Int×Int) ⊕ Int) :=
  bif (aB .lss s43.1 s43.2) then ((vG .u64 (IntKind.u64.wrap (IntKind.i64.wrap (s43.1+s43.2))) 1).bind fun v44=>(idx x0 (IntKind.i64.wrap ((IntKind.i64.wrap ((IntKind.i64.wrap ((IntKind.i64.wrap v39)+x2)) - 1)) - (IntKind.i64.wrap v44)))).bind fun v45=>(idx x0 (IntKind.i64.wrap v44)).bind fun v46=>(x4 v45 v46).bind fun v47=>bif (!(aB .lss v47 0)) then (some (.inl ((IntKind.i64.wrap ((IntKind.i64.wrap v44)+1)),s43.2))) else (some (.inl (s43.1,(IntKind.i64.wrap v44))))) else (some (.inr s43.1))
def dA (N:Nat) (rc:(List ah)→Int→Int→Int→(ah→ah→Option Int)→Option ((List ah))) (x0:(List ah)) (x1:Int) (x2:Int) (x3:Int) (x4:(ah→ah→Option Int)):Option ((List ah)) :=
  bif (aB .eql (IntKind.i64.wrap (x2 - x1)) 1) then ((aX (gB N x0 x1 x4) N (x2,x3)).bind fun o8=>(aX (dK N o8) N (x0,x1)).bind fun o16=>some o16) else (bif (aB .eql (IntKind.i64.wrap (x3 - x2)) 1) then ((aX (gG N x0 x2 x4) N (x1,x2)).bind fun Jh=>(aX (dL N Jh) N (x0,x2)).bind fun XK=>some XK) else ((vG .u64 (IntKind.u64.wrap (IntKind.i64.wrap (x1+x3))) 1).bind fun v39=>((bif (aB .gtr x2 (IntKind.i64.wrap v39)) then (some ((IntKind.i64.wrap ((IntKind.i64.wrap ((IntKind.i64.wrap v39)+x2)) - x3)),(IntKind.i64.wrap v39))) else (some (x1,x2))):Option (Int×Int)).bind fun o41=>(aX (gJ N x0 x2 x4 v39) N (o41.1,o41.2)).bind fun MZ=>((bif ((aB .lss MZ x2)&&(aB .lss x2 (IntKind.i64.wrap ((IntKind.i64.wrap ((IntKind.i64.wrap v39)+x2)) - MZ)))) then ((iD N x0 MZ x2 (IntKind.i64.wrap ((IntKind.i64.wrap ((IntKind.i64.wrap v39)+x2)) - MZ)) x4).bind fun v52=>some v52) else (some x0)):Option (List ah)).bind fun o54=>((bif ((aB .lss x1 MZ)&&(aB .lss MZ (IntKind.i64.wrap v39))) then ((rc o54 x1 MZ (IntKind.i64.wrap v39) x4).bind fun v56=>some v56) else (some o54)):Option (List ah)).bind fun o58=>bif ((aB .lss (IntKind.i64.wrap v39) (IntKind.i64.wrap ((IntKind.i64.wrap ((IntKind.i64.wrap v39)+x2)) - MZ)))&&(aB .lss (IntKind.i64.wrap ((IntKind.i64.wrap ((IntKind.i64.wrap v39)+x2)) - MZ)) x3)) then ((rc o58 (IntKind.i64.wrap v39) (IntKind.i64.wrap ((IntKind.i64.wrap ((IntKind.i64.wrap v39)+x2)) - MZ)) x3 x4).bind fun v60=>some v60) else (some o58)))
def dJ (N:Nat):(List ah)→Int→Int→Int→(ah→ah→Option Int)→Option ((List ah)) :=
  match N with
  | 0=>fun _ _ _ _ _=>none
  | N+1=>fun x0 x1 x2 x3 x4=>dA N (dJ N) x0 x1 x2 x3 x4
def cu (N:Nat) (x1:Int) (x2:(ah→ah→Option Int)) (s7:((List ah)×Int)) (s8:((List ah)×Int×Int)):Option (((List ah)×Int×Int) ⊕ ((List ah)×Int)) :=
  bif (aB .leq s8.2.2 x1) then ((dJ N s8.1 s8.2.1 (IntKind.i64.wrap (s8.2.1+s7.2)) s8.2.2 x2).bind fun v9=>some (.inl (v9,s8.2.2,(IntKind.i64.wrap (s8.2.2+(IntKind.i64.wrap (2 * s7.2))))))) else (some (.inr (s8.1,s8.2.1)))
def di (N:Nat) (x1:Int) (x2:(ah→ah→Option Int)) (s7:((List ah)×Int)):Option (((List ah)×Int) ⊕ (List ah)) :=
  bif (aB .lss s7.2 x1) then ((aX (cu N x1 x2 s7) N (s7.1,0,(IntKind.i64.wrap (2 * s7.2)))).bind fun En=>bif (aB .lss (IntKind.i64.wrap (En.2+s7.2)) x1) then ((dJ N En.1 En.2 (IntKind.i64.wrap (En.2+s7.2)) x1 x2).bind fun v13=>some (.inl (v13,(IntKind.i64.wrap (s7.2 * 2))))) else (some (.inl (En.1,(IntKind.i64.wrap (s7.2 * 2)))))) else (some (.inr s7.1))
def bZ (N:Nat) (x1:Int) (x2:(ah→ah→Option Int)) (s1:((List ah)×Int×Int)):Option (((List ah)×Int×Int) ⊕ ((List ah)×Int)) :=
  bif (aB .leq s1.2.2 x1) then ((eU N s1.1 s1.2.1 s1.2.2 x2).bind fun v2=>some (.inl (v2,s1.2.2,(IntKind.i64.wrap (s1.2.2+20))))) else (some (.inr (s1.1,s1.2.1)))
def jg (N:Nat) (x0:(List ah)) (x1:Int) (x2:(ah→ah→Option Int)):Option ((List ah)) :=
  (aX (bZ N x1 x2) N (x0,0,20)).bind fun o4=>(eU N o4.1 o4.2 x1 x2).bind fun v6=>(aX (di N x1 x2) N (v6,20)).bind fun Qd=>some Qd
def iC (N:Nat) (x0:(List ah)) (x1:(ah→ah→Option Int)):Option ((List ah)) :=
  (jg N x0 (List.length x0:Int) x1).bind fun v1=>some v1
def jk (N:Nat) (x0:ah) (x1:ah):Option (Int) :=
  bif (aB .lss x0.piece x1.piece) then (some (-1)) else (bif (aB .gtr x0.piece x1.piece) then (some 1) else (some 0))
def lu (N:Nat) (v2:(List ah)) (s3:((List bg)×Int)):Option (((List bg)×Int) ⊕ (List bg)) :=
  bif (aB .lss s3.2 (List.length v2:Int)) then ((idx v2 s3.2).bind fun v4=>(app s3.1 [v4.xR]).bind fun v5=>some (.inl (v5,(IntKind.i64.wrap (s3.2+1))))) else (some (.inr s3.1))
def qc (N:Nat) (x0:GPlate) (x1:bV) (x2:Int):Option ((List bg)×Int) :=
  (lF N x0 x1 x2).bind fun v1=>bif (aB .neq v1.2 0) then (some ([],v1.2)) else ((iC N v1.1 (fun y0 y1=>jk N y0 y1)).bind fun v2=>(aX (lu N v2) N ([],0)).bind fun o7=>some (o7,0))
def rq (N:Nat) (x1:(List bg)) (x2:Int) (s1:Int) (v2:bg) (s3:Int):Option (Int ⊕ (Unit ⊕ Bool)) :=
  bif (aB .lss s3 s1) then ((idx x1 s3).bind fun v4=>bif ((((aB .gtr (IntKind.i64.wrap ((IntKind.i64.wrap (v2.X+v2.W))+x2)) v4.X)&&(aB .gtr (IntKind.i64.wrap ((IntKind.i64.wrap (v4.X+v4.W))+x2)) v2.X))&&(aB .gtr (IntKind.i64.wrap ((IntKind.i64.wrap (v2.Y+v2.H))+x2)) v4.Y))&&(aB .gtr (IntKind.i64.wrap ((IntKind.i64.wrap (v4.Y+v4.H))+x2)) v2.Y)) then (some (.inr (Sum.inr false))) else (some (.inl (IntKind.i64.wrap (s3+1))))) else (some (.inr (Sum.inl ())))
def rf (N:Nat) (x0:GPlate) (x1:(List bg)) (x2:Int) (s1:Int):Option (Int ⊕ (Unit ⊕ Bool)) :=
  bif (aB .lss s1 (List.length x1:Int)) then ((idx x1 s1).bind fun v2=>bif ((((((aB .lss v2.X 0)||(aB .lss v2.Y 0))||(aB .lss v2.W 1))||(aB .lss v2.H 1))||(aB .gtr (IntKind.i64.wrap (v2.X+v2.W)) x0.W))||(aB .gtr (IntKind.i64.wrap (v2.Y+v2.H)) x0.H)) then (some (.inr (Sum.inr false))) else ((aX (rq N x1 x2 s1 v2) N 0).bind fun o7=>Sum.elim (fun l9=>some (.inl (IntKind.i64.wrap (s1+1)))) (fun r10=>some (.inr (Sum.inr r10))) o7)) else (some (.inr (Sum.inl ())))
def wK (N:Nat) (x0:GPlate) (x1:(List bg)) (x2:Int):Option (Bool) :=
  (aX (rf N x0 x1 x2) N 0).bind fun ED=>Sum.elim (fun Yk=>some true) (fun V8=>some V8) ED
def jO (N:Nat) (x0:Glaw09_Job) (s13:Int):Option (Int ⊕ (Unit ⊕ Bool)) :=
  bif (aB .lss s13 (List.length x0.ou:Int)) then ((idx x0.ou s13).bind fun v14=>(idx x0.qO v14.sF).bind fun v15=>(idx x0.ou s13).bind fun v16=>(qc N v15 v16.wS x0.E8).bind fun v17=>(bif (!(aB .neq v17.2 0)) then (wK N v15 v17.1 x0.E8) else some false).bind fun v18=>bif ((aB .neq v17.2 0)||(!v18)) then (some (.inr (Sum.inr false))) else (some (.inl (IntKind.i64.wrap (s13+1))))) else (some (.inr (Sum.inl ())))
def qp (N:Nat) (x0:Glaw09_Job) (x1:GPlate):Option (Bool) :=
  (xg N).bind fun v1=>bif (!v1) then (some false) else ((bif (!(((aB .gtr (List.length x0.rQ:Int) 5)||(aB .gtr (List.length x0.qO:Int) 10))||(aB .gtr (List.length x0.ou:Int) 10))) then (nN N x0.rQ x0.qO x0.E8) else some 0).bind fun v2=>bif ((((aB .gtr (List.length x0.rQ:Int) 5)||(aB .gtr (List.length x0.qO:Int) 10))||(aB .gtr (List.length x0.ou:Int) 10))||(aB .neq v2 0)) then (some true) else ((lZ N x0.rQ x0.qO x0.E8).bind fun v3=>bif ((aB .neq v3.2.2 0)&&(aB .neq v3.2.2 29)) then (some false) else ((app ([]:(List GPlate)) x0.qO).bind fun v4=>(app v4 [x1]).bind fun v5=>(lZ N x0.rQ v5 x0.E8).bind fun v6=>(bif ((aB .eql v3.2.2 0)&&(aB .lss (List.length x0.qO:Int) 3)) then (kK N x1) else some 0).bind fun v7=>bif ((((aB .eql v3.2.2 0)&&(aB .lss (List.length x0.qO:Int) 3))&&(aB .eql v7 0))&&((aB .neq v6.2.2 0)||(aB .gtr v6.2.1 v3.2.1))) then (some false) else ((pq N x0.rQ x0.qO v3.1 x0.E8).bind fun v8=>bif ((aB .eql v3.2.2 0)&&(aB .neq v8.1 v3.2.1)) then (some false) else ((kC N x0.rQ x0.qO x0.ou x0.E8).bind fun v9=>bif (aB .neq v9.2 0) then (some true) else ((uo N x0.rQ x0.qO x0.ou x0.E8).bind fun v10=>(bif (!(((aB .neq v3.2.2 0)||(aB .lss v9.1 v3.2.1))||(aB .neq v10.2 0))) then (Bc N 1) else some (⟨(⟨false,[]⟩:ig),(⟨false,[]⟩:ig)⟩:jq)).bind fun v11=>(bif (!(((aB .neq v3.2.2 0)||(aB .lss v9.1 v3.2.1))||(aB .neq v10.2 0))) then (rG N v10.1 v11) else some 0).bind fun v12=>bif ((((aB .neq v3.2.2 0)||(aB .lss v9.1 v3.2.1))||(aB .neq v10.2 0))||(aB .gtr v12 0)) then (some false) else ((aX (jO N x0) N 0).bind fun Oj=>Sum.elim (fun l23=>some true) (fun r24=>some r24) Oj)))))))
end Go.KB
