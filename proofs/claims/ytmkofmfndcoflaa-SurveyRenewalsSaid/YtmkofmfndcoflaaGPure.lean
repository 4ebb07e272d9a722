/- The functions as plain Lean functions. Printed by a program. No condition. -/
import Derived.Test.YtmkofmfndcoflaaGTypes
import Derived.Test.YtmkofmfndcoflaaKSg
namespace Go.KB
set_option linter.unusedVariables false
noncomputable section
def jF (N:Nat) (x0:Int) (c0:Int) (c1:Int):Option (Bool) :=
  some ((ax .lss x0 c0)||(ax .gtr x0 c1))
def eu (N:Nat) (x0:(List Int)) (x1:(Int→Option Bool)) (s1:Int):Option (Int ⊕ (Unit ⊕ Int)) :=
  bif (ax .lss s1 (List.length x0:Int)) then ((idx x0 s1).bind fun v2=>(x1 v2).bind fun v3=>bif v3 then (some (.inr (Sum.inr s1))) else (some (.inl (IntKind.i64.wrap (s1+1))))) else (some (.inr (Sum.inl ())))
def fO (N:Nat) (x0:(List Int)) (x1:(Int→Option Bool)):Option (Int) :=
  (bD (eu N x0 x1) N 0).bind fun o6=>Sum.elim (fun l8=>some (-1)) (fun r9=>some r9) o6
def gq (N:Nat) (x0:(List Int)) (x1:(Int→Option Bool)):Option (Bool) :=
  (fO N x0 x1).bind fun v1=>some (ax .geq v1 0)
def iD (N:Nat) (x0:Int) (x1:Int) (x2:(List Int)):Option (Bool) :=
  (gq N x2 (fun y0=>jF N y0 x0 x1)).bind fun v1=>some (!v1)
def kH (N:Nat) (x0:(List jg)) (s1:Int):Option (Int ⊕ (Unit ⊕ Int)) :=
  bif (ax .lss s1 (List.length x0:Int)) then ((idx x0 s1).bind fun v2=>(iD N 0 1000000 [v2.Start]).bind fun v3=>(bif (!(!v3)) then (iD N 1 100000 [v2.um,v2.y9]) else some false).bind fun v4=>bif ((!v3)||(!v4)) then (some (.inr (Sum.inr 2))) else (bif (ax .eql s1 0) then (some (.inl (IntKind.i64.wrap (s1+1)))) else ((idx x0 (IntKind.i64.wrap (s1 - 1))).bind fun v5=>bif (ax .leq v2.Start v5.Start) then (some (.inr (Sum.inr 10))) else (bif ((ax .gtr (IntKind.i64.wrap (v5.Start+v5.um)) v2.Start)||(v5.Back == v2.Back)) then (some (.inr (Sum.inr 17))) else (some (.inl (IntKind.i64.wrap (s1+1)))))))) else (some (.inr (Sum.inl ())))
def lX (N:Nat) (x0:(List jg)):Option (Int) :=
  bif (ax .lss (List.length x0:Int) 2) then (some 11) else (bif (ax .gtr (List.length x0:Int) 12) then (some 8) else ((bD (kH N x0) N 0).bind fun Hl=>Sum.elim (fun l13=>some 0) (fun r14=>some r14) Hl))
def mY (N:Nat) (s1:(Int×(List Int))):Option ((Int×(List Int)) ⊕ (List Int)) :=
  bif (ax .gtr s1.1 0) then ((app s1.2 [(IntKind.u16.wrap s1.1)]).bind fun v2=>(zX .u64 s1.1 16).bind fun v3=>some (.inl (v3,v2))) else (some (.inr s1.2))
def kQ (N:Nat) (x0:Int):Option ((List Int)) :=
  (bD (mY N) N (x0,[])).bind fun o5=>some o5
def qg (N:Nat) (s1:(List Int)):Option ((List Int) ⊕ (List Int)) :=
  (bif (ax .gtr (List.length s1:Int) 0) then (idx s1 (IntKind.i64.wrap ((List.length s1:Int) - 1))) else some 0).bind fun v2=>bif ((ax .gtr (List.length s1:Int) 0)&&(ax .eql v2 0)) then ((zV s1 0 (IntKind.i64.wrap ((List.length s1:Int) - 1))).bind fun v3=>some (.inl v3)) else (some (.inr s1))
def dP (N:Nat) (x0:(List Int)):Option ((List Int)) :=
  (bD (qg N) N x0).bind fun o5=>some o5
def dO (N:Nat) (x0:(List Int)):Option ((List Int)) :=
  (app ([]:(List Int)) x0).bind fun v1=>some v1
def eU (N:Nat) (x0:Bool) (x1:(List Int)):Option (dQ) :=
  (dP N x1).bind fun v1=>bif (ax .eql (List.length v1:Int) 0) then (some (⟨false,[]⟩:dQ)) else ((dO N v1).bind fun v2=>some (⟨x0,v2⟩:dQ))
def uh (N:Nat) (x0:Int):Option (dQ) :=
  bif (ax .lss x0 0) then ((kQ N (IntKind.u64.wrap (0 - (IntKind.u64.wrap x0)))).bind fun v1=>(eU N true v1).bind fun v2=>some v2) else ((kQ N (IntKind.u64.wrap x0)).bind fun v3=>(eU N false v3).bind fun v4=>some v4)
def qh (N:Nat) (x0:(List Int)) (s1:(Int×Int)):Option ((Int×Int) ⊕ Int) :=
  bif (ax .geq s1.2 0) then ((BI .u64 s1.1 16).bind fun v2=>(idx x0 s1.2).bind fun v3=>some (.inl ((sW .or .u64 v2 (IntKind.u64.wrap v3)),(IntKind.i64.wrap (s1.2 - 1))))) else (some (.inr s1.1))
def qy (N:Nat) (x0:(List Int)):Option (Int×Bool) :=
  bif (ax .gtr (List.length x0:Int) 4) then (some (0,false)) else ((bD (qh N x0) N (0,(IntKind.i64.wrap ((List.length x0:Int) - 1)))).bind fun o5=>some (o5,true))
def mZ (N:Nat) (x0:(List Int)) (x1:(List Int)) (s1:Int):Option (Int ⊕ (Unit ⊕ Int)) :=
  bif (ax .geq s1 0) then ((idx x0 s1).bind fun v2=>(idx x1 s1).bind fun v3=>bif (ax .neq v2 v3) then ((idx x0 s1).bind fun v4=>(idx x1 s1).bind fun v5=>some (.inr (Sum.inr (IntKind.i64.wrap ((IntKind.i64.wrap v4) - (IntKind.i64.wrap v5)))))) else (some (.inl (IntKind.i64.wrap (s1 - 1))))) else (some (.inr (Sum.inl ())))
def mQ (N:Nat) (x0:(List Int)) (x1:(List Int)):Option (Int) :=
  bif (ax .neq (List.length x0:Int) (List.length x1:Int)) then (some (IntKind.i64.wrap ((List.length x0:Int) - (List.length x1:Int)))) else ((bD (mZ N x0 x1) N (IntKind.i64.wrap ((List.length x0:Int) - 1))).bind fun o8=>Sum.elim (fun l10=>some 0) (fun r11=>some r11) o8)
def oN (N:Nat) (x0:(List Int)) (x1:Int) (s2:((List Int)×Int×Int)):Option (((List Int)×Int×Int) ⊕ ((List Int)×Int)) :=
  bif (ax .geq s2.2.2 0) then ((BI .u32 s2.2.1 16).bind fun v3=>(idx x0 s2.2.2).bind fun v4=>(AZ .u32 (sW .or .u32 v3 (IntKind.u32.wrap v4)) (IntKind.u32.wrap x1)).bind fun v5=>(idx s2.1 s2.2.2).bind fun v6=>(zW (sW .or .u32 v3 (IntKind.u32.wrap v4)) (IntKind.u32.wrap x1)).bind fun v7=>some (.inl ((List.set s2.1 (Int.toNat s2.2.2) (IntKind.u16.wrap v5)),v7,(IntKind.i64.wrap (s2.2.2 - 1))))) else (some (.inr (s2.1,s2.2.1)))
def sF (N:Nat) (x0:(List Int)) (x1:Int):Option ((List Int)×Int) :=
  (mk 0 (List.length x0:Int) (List.length x0:Int)).bind fun v1=>(bD (oN N x0 x1) N (v1,0,(IntKind.i64.wrap ((List.length x0:Int) - 1)))).bind fun o9=>(dP N o9.1).bind fun v11=>some (v11,(IntKind.u16.wrap o9.2))
def uj (N:Nat) (x0:Int):Option (Int) :=
  bif (ax .geq x0 256) then ((zX .u16 x0 8).bind fun v1=>(idx ([0,1,2,2,3,3,3,3,4,4,4,4,4,4,4,4,5,5,5,5,5,5,5,5,5,5,5,5,5,5,5,5,6,6,6,6,6,6,6,6,6,6,6,6,6,6,6,6,6,6,6,6,6,6,6,6,6,6,6,6,6,6,6,6,7,7,7,7,7,7,7,7,7,7,7,7,7,7,7,7,7,7,7,7,7,7,7,7,7,7,7,7,7,7,7,7,7,7,7,7,7,7,7,7,7,7,7,7,7,7,7,7,7,7,7,7,7,7,7,7,7,7,7,7,7,7,7,7,8,8,8,8,8,8,8,8,8,8,8,8,8,8,8,8,8,8,8,8,8,8,8,8,8,8,8,8,8,8,8,8,8,8,8,8,8,8,8,8,8,8,8,8,8,8,8,8,8,8,8,8,8,8,8,8,8,8,8,8,8,8,8,8,8,8,8,8,8,8,8,8,8,8,8,8,8,8,8,8,8,8,8,8,8,8,8,8,8,8,8,8,8,8,8,8,8,8,8,8,8,8,8,8,8,8,8,8,8,8,8,8,8,8,8,8,8,8,8,8,8,8,8,8,8,8,8,8]:Str) (IntKind.u8.wrap v1)).bind fun v2=>some (IntKind.i64.wrap (8+(IntKind.i64.wrap ((UInt8.toNat v2:Nat):Int))))) else ((idx ([0,1,2,2,3,3,3,3,4,4,4,4,4,4,4,4,5,5,5,5,5,5,5,5,5,5,5,5,5,5,5,5,6,6,6,6,6,6,6,6,6,6,6,6,6,6,6,6,6,6,6,6,6,6,6,6,6,6,6,6,6,6,6,6,7,7,7,7,7,7,7,7,7,7,7,7,7,7,7,7,7,7,7,7,7,7,7,7,7,7,7,7,7,7,7,7,7,7,7,7,7,7,7,7,7,7,7,7,7,7,7,7,7,7,7,7,7,7,7,7,7,7,7,7,7,7,7,7,8,8,8,8,8,8,8,8,8,8,8,8,8,8,8,8,8,8,8,8,8,8,8,8,8,8,8,8,8,8,8,8,8,8,8,8,8,8,8,8,8,8,8,8,8,8,8,8,8,8,8,8,8,8,8,8,8,8,8,8,8,8,8,8,8,8,8,8,8,8,8,8,8,8,8,8,8,8,8,8,8,8,8,8,8,8,8,8,8,8,8,8,8,8,8,8,8,8,8,8,8,8,8,8,8,8,8,8,8,8,8,8,8,8,8,8,8,8,8,8,8,8,8,8,8,8,8,8]:Str) (IntKind.u8.wrap x0)).bind fun v3=>some (IntKind.i64.wrap (0+(IntKind.i64.wrap ((UInt8.toNat v3:Nat):Int)))))
def kU (N:Nat) (x0:Int):Option (Int) :=
  (uj N x0).bind fun v1=>some (IntKind.i64.wrap (16 - v1))
def jr (N:Nat) (x0:(List Int)) (x1:Int) (s2:((List Int)×Int)):Option (((List Int)×Int) ⊕ (List Int)) :=
  bif (ax .lss s2.2 (List.length x0:Int)) then ((idx x0 s2.2).bind fun v3=>(BI .u32 (IntKind.u32.wrap v3) x1).bind fun v4=>(idx s2.1 s2.2).bind fun v5=>(idx s2.1 s2.2).bind fun v6=>(zX .u32 v4 16).bind fun v7=>(idx (List.set s2.1 (Int.toNat s2.2) (sW .or .u16 v5 (IntKind.u16.wrap v4))) (IntKind.i64.wrap (s2.2+1))).bind fun v8=>some (.inl ((List.set (List.set s2.1 (Int.toNat s2.2) (sW .or .u16 v5 (IntKind.u16.wrap v4))) (Int.toNat (IntKind.i64.wrap (s2.2+1))) (IntKind.u16.wrap v7)),(IntKind.i64.wrap (s2.2+1))))) else (some (.inr s2.1))
def jC (N:Nat) (x0:(List Int)) (x1:Int):Option ((List Int)) :=
  (mk 0 (IntKind.i64.wrap ((List.length x0:Int)+1)) (IntKind.i64.wrap ((List.length x0:Int)+1))).bind fun v1=>(bD (jr N x0 x1) N (v1,0)).bind fun FV=>some FV
def oQ (N:Nat) (x1:(List Int)) (BD:((List Int)×Int×Int)):Option (((List Int)×Int×Int) ⊕ ((List Int)×Int)) :=
  bif (ax .lss BD.2.2 (List.length x1:Int)) then ((idx BD.1 BD.2.2).bind fun v29=>(idx x1 BD.2.2).bind fun v30=>(idx BD.1 BD.2.2).bind fun v31=>(zX .u32 (IntKind.u32.wrap (BD.2.1+(IntKind.u32.wrap ((IntKind.u32.wrap v29)+(IntKind.u32.wrap v30))))) 16).bind fun v32=>some (.inl ((List.set BD.1 (Int.toNat BD.2.2) (IntKind.u16.wrap (IntKind.u32.wrap (BD.2.1+(IntKind.u32.wrap ((IntKind.u32.wrap v29)+(IntKind.u32.wrap v30))))))),v32,(IntKind.i64.wrap (BD.2.2+1))))) else (some (.inr (BD.1,BD.2.1)))
def oP (N:Nat) (x1:(List Int)) (wX:Int) (s16:((List Int)×Int×Int×Int)):Option (((List Int)×Int×Int×Int) ⊕ ((List Int)×Int)) :=
  bif (ax .lss s16.2.2.2 (IntKind.i64.wrap ((List.length x1:Int)+1))) then (((bif (ax .lss s16.2.2.2 (List.length x1:Int)) then ((idx x1 s16.2.2.2).bind fun v17=>some (IntKind.u64.wrap (s16.2.1+(IntKind.u64.wrap (wX * (IntKind.u64.wrap v17)))))) else (some s16.2.1)):Option Int).bind fun H6=>(zX .u64 H6 16).bind fun v21=>(idx s16.1 s16.2.2.2).bind fun v22=>(idx s16.1 s16.2.2.2).bind fun v23=>(zX .i64 (IntKind.i64.wrap ((IntKind.i64.wrap ((IntKind.i64.wrap v22) - (IntKind.i64.wrap (sW .and .u64 H6 65535))))+s16.2.2.1)) 16).bind fun v24=>some (.inl ((List.set s16.1 (Int.toNat s16.2.2.2) (IntKind.u16.wrap (IntKind.i64.wrap ((IntKind.i64.wrap ((IntKind.i64.wrap v22) - (IntKind.i64.wrap (sW .and .u64 H6 65535))))+s16.2.2.1)))),v21,v24,(IntKind.i64.wrap (s16.2.2.2+1))))) else (some (.inr (s16.1,s16.2.2.1)))
def oO (N:Nat) (x0:(List Int)) (x1:(List Int)) (s8:(Int×Int)):Option ((Int×Int) ⊕ Int) :=
  (bif ((ax .lss s8.2 65536)&&(!(ax .gtr s8.1 65535))) then (idx x1 (IntKind.i64.wrap ((List.length x1:Int) - 2))) else some 0).bind fun v9=>(bif ((ax .lss s8.2 65536)&&(!(ax .gtr s8.1 65535))) then (BI .u64 s8.2 16) else some 0).bind fun v10=>(bif ((ax .lss s8.2 65536)&&(!(ax .gtr s8.1 65535))) then (idx x0 (IntKind.i64.wrap ((List.length x1:Int) - 2))) else some 0).bind fun v11=>bif ((ax .lss s8.2 65536)&&((ax .gtr s8.1 65535)||(ax .gtr (IntKind.u64.wrap (s8.1 * (IntKind.u64.wrap v9))) (sW .or .u64 v10 (IntKind.u64.wrap v11))))) then ((idx x1 (IntKind.i64.wrap ((List.length x1:Int) - 1))).bind fun v12=>some (.inl ((IntKind.u64.wrap (s8.1 - 1)),(IntKind.u64.wrap (s8.2+(IntKind.u64.wrap v12)))))) else (some (.inr s8.1))
def sH (N:Nat) (x0:(List Int)) (x1:(List Int)):Option ((List Int)×Int) :=
  (idx x0 (List.length x1:Int)).bind fun v1=>(BI .u64 (IntKind.u64.wrap v1) 16).bind fun v2=>(idx x0 (IntKind.i64.wrap ((List.length x1:Int) - 1))).bind fun v3=>(idx x1 (IntKind.i64.wrap ((List.length x1:Int) - 1))).bind fun v4=>(AZ .u64 (sW .or .u64 v2 (IntKind.u64.wrap v3)) (IntKind.u64.wrap v4)).bind fun v5=>(idx x1 (IntKind.i64.wrap ((List.length x1:Int) - 1))).bind fun v6=>(zW (sW .or .u64 v2 (IntKind.u64.wrap v3)) (IntKind.u64.wrap v6)).bind fun v7=>(bD (oO N x0 x1) N (v5,v7)).bind fun wX=>(bD (oP N x1 wX) N (x0,0,0,0)).bind fun Bv=>bif (ax .lss Bv.2 0) then ((bD (oQ N x1) N (Bv.1,0,0)).bind fun JL=>(idx JL.1 (List.length x1:Int)).bind fun v36=>(idx JL.1 (List.length x1:Int)).bind fun v37=>some ((List.set JL.1 (Int.toNat (List.length x1:Int)) (IntKind.u16.wrap (v36+(IntKind.u16.wrap JL.2)))),(IntKind.u16.wrap (IntKind.u64.wrap (wX - 1))))) else (some (Bv.1,(IntKind.u16.wrap wX)))
def nS (N:Nat) (v7:Int) (v10:(List Int)) (Ii:((List Int)×(List Int))) (s20:((List Int)×Int)):Option (((List Int)×Int) ⊕ (List Int)) :=
  bif (ax .lss s20.2 (List.length v10:Int)) then ((idx Ii.2 s20.2).bind fun v21=>(idx Ii.2 (IntKind.i64.wrap (s20.2+1))).bind fun v22=>(BI .u32 (IntKind.u32.wrap v22) 16).bind fun v23=>(zX .u32 (sW .or .u32 (IntKind.u32.wrap v21) v23) v7).bind fun v24=>(idx s20.1 s20.2).bind fun v25=>some (.inl ((List.set s20.1 (Int.toNat s20.2) (IntKind.u16.wrap v24)),(IntKind.i64.wrap (s20.2+1))))) else (some (.inr s20.1))
def nR (N:Nat) (v10:(List Int)) (s12:((List Int)×(List Int)×Int)):Option (((List Int)×(List Int)×Int) ⊕ ((List Int)×(List Int))) :=
  bif (ax .geq s12.2.2 0) then ((zV s12.2.1 s12.2.2 (IntKind.i64.wrap ((IntKind.i64.wrap (s12.2.2+(List.length v10:Int)))+1))).bind fun v13=>(sH N (List.take (Int.toNat (IntKind.i64.wrap ((IntKind.i64.wrap (s12.2.2+(List.length v10:Int)))+1)) - Int.toNat s12.2.2) (List.drop (Int.toNat s12.2.2) s12.2.1)) v10).bind fun v14=>(idx s12.1 s12.2.2).bind fun v15=>some (.inl ((List.set s12.1 (Int.toNat s12.2.2) v14.2),(List.take (Int.toNat s12.2.2) s12.2.1 ++ v14.1 ++ List.drop ((Int.toNat s12.2.2)+(Int.toNat (IntKind.i64.wrap ((IntKind.i64.wrap (s12.2.2+(List.length v10:Int)))+1)) - Int.toNat s12.2.2)) s12.2.1),(IntKind.i64.wrap (s12.2.2 - 1))))) else (some (.inr (s12.1,s12.2.1)))
def lJ (N:Nat) (x0:(List Int)) (x1:(List Int)):Option ((List Int)×(List Int)) :=
  (mQ N x0 x1).bind fun v1=>bif (ax .lss v1 0) then ((dO N x0).bind fun v2=>some ([],v2)) else (bif (ax .eql (List.length x1:Int) 1) then ((idx x1 0).bind fun v3=>(sF N x0 v3).bind fun v4=>(dP N [v4.2]).bind fun v5=>some (v4.1,v5)) else ((idx x1 (IntKind.i64.wrap ((List.length x1:Int) - 1))).bind fun v6=>(kU N v6).bind fun v7=>(jC N x0 v7).bind fun v8=>(jC N x1 v7).bind fun v9=>(zV v9 0 (List.length x1:Int)).bind fun v10=>(mk 0 (IntKind.i64.wrap ((List.length v8:Int) - (List.length v10:Int))) (IntKind.i64.wrap ((List.length v8:Int) - (List.length v10:Int)))).bind fun v11=>(bD (nR N v10) N (v11,v8,(IntKind.i64.wrap ((IntKind.i64.wrap ((List.length v8:Int) - (List.length v10:Int))) - 1)))).bind fun Ii=>(mk 0 (List.length v10:Int) (List.length v10:Int)).bind fun v19=>(bD (nS N v7 v10 Ii) N (v19,0)).bind fun o27=>(dP N Ii.1).bind fun v29=>(dP N o27).bind fun v30=>some (v29,v30)))
def nU (N:Nat) (s4:(Int×Int)):Option ((Int×Int) ⊕ Int) :=
  bif (ax .gtr s4.2 0) then ((zW s4.1 s4.2).bind fun v5=>some (.inl (s4.2,v5))) else (some (.inr s4.1))
def nT (N:Nat) (s1:((List Int)×(List Int))):Option (((List Int)×(List Int)) ⊕ ((List Int) ⊕ (List Int))) :=
  bif (ax .gtr (List.length s1.2:Int) 0) then ((qy N s1.1).bind fun v2=>(qy N s1.2).bind fun v3=>bif (v2.2&&v3.2) then ((bD (nU N) N (v2.1,v3.1)).bind fun o7=>(kQ N o7).bind fun v9=>some (.inr (Sum.inr v9))) else ((lJ N s1.1 s1.2).bind fun v11=>some (.inl (s1.2,v11.2)))) else (some (.inr (Sum.inl s1.1)))
def qX (N:Nat) (x0:(List Int)) (x1:(List Int)):Option ((List Int)) :=
  (bD (nT N) N (x0,x1)).bind fun wX=>Sum.elim (fun l16=>some l16) (fun r17=>some r17) wX
def jh (N:Nat) (x0:dQ) (x1:dQ):Option (fA) :=
  (dP N x0.Limbs).bind fun v1=>(dP N x1.Limbs).bind fun v2=>(qX N v1 v2).bind fun v3=>(bif (!(ax .neq (List.length v3:Int) 1)) then (idx v3 0) else some 0).bind fun v4=>bif ((ax .neq (List.length v3:Int) 1)||(ax .neq v4 1)) then ((lJ N v1 v3).bind fun v5=>(lJ N v2 v3).bind fun v6=>(eU N (!(x0.Neg == x1.Neg)) v5.1).bind fun v7=>(eU N false v6.1).bind fun v8=>some (⟨v7,v8⟩:fA)) else ((eU N (!(x0.Neg == x1.Neg)) v1).bind fun v9=>(eU N false v2).bind fun v10=>some (⟨v9,v10⟩:fA))
def sJ (N:Nat) (x0:Int) (x1:Int):Option (fA×Int) :=
  bif (ax .eql x1 0) then (some ((⟨(⟨false,[]⟩:dQ),(⟨false,[]⟩:dQ)⟩:fA),9)) else ((uh N x0).bind fun v1=>(uh N x1).bind fun v2=>(jh N v1 v2).bind fun v3=>some (v3,0))
def nV (N:Nat) (x0:Int) (x1:Int):Option (fA) :=
  (sJ N x0 x1).bind fun v1=>some v1.1
def ng (N:Nat) (x0:(List jg)) (s2:((List fA)×Int)):Option (((List fA)×Int) ⊕ (List fA)) :=
  bif (ax .lss s2.2 (List.length x0:Int)) then ((idx x0 s2.2).bind fun v3=>(nV N v3.y9 v3.um).bind fun v4=>(app s2.1 [v4]).bind fun v5=>some (.inl (v5,(IntKind.i64.wrap (s2.2+1))))) else (some (.inr s2.1))
def qi (N:Nat) (x0:(List jg)):Option ((List fA)×Int) :=
  (lX N x0).bind fun v1=>bif (ax .neq v1 0) then (some ([],v1)) else ((bD (ng N x0) N ([],0)).bind fun o7=>some (o7,0))
def qA (N:Nat) (x0:dQ):Option (Int) :=
  (dP N x0.Limbs).bind fun v1=>bif (ax .eql (List.length v1:Int) 0) then (some 0) else (bif x0.Neg then (some (-1)) else (some 1))
def nX (N:Nat) (x0:fA):Option (Bool) :=
  (qA N x0.Num).bind fun v1=>some (ax .eql v1 0)
def jH (N:Nat) (x0:fA):Option (dQ) :=
  (qA N x0.Jp).bind fun v1=>bif (ax .eql v1 0) then (some (⟨false,[1]⟩:dQ)) else (some x0.Jp)
def nY (N:Nat) (x0:fA):Option (fA) :=
  (jH N x0).bind fun v1=>(jh N x0.Num v1).bind fun v2=>some v2
def oL (N:Nat) (x1:(List Int)) (s2:((List Int)×Int)) (v3:Int) (s4:((List Int)×Int×Int)):Option (((List Int)×Int×Int) ⊕ ((List Int)×Int)) :=
  bif (ax .lss s4.2.2 (List.length x1:Int)) then ((idx x1 s4.2.2).bind fun v5=>(idx s4.1 (IntKind.i64.wrap (s2.2+s4.2.2))).bind fun v6=>(idx s4.1 (IntKind.i64.wrap (s2.2+s4.2.2))).bind fun v7=>(zX .u32 (IntKind.u32.wrap (s4.2.1+(IntKind.u32.wrap ((IntKind.u32.wrap ((IntKind.u32.wrap v3) * (IntKind.u32.wrap v5)))+(IntKind.u32.wrap v6))))) 16).bind fun v8=>some (.inl ((List.set s4.1 (Int.toNat (IntKind.i64.wrap (s2.2+s4.2.2))) (IntKind.u16.wrap (IntKind.u32.wrap (s4.2.1+(IntKind.u32.wrap ((IntKind.u32.wrap ((IntKind.u32.wrap v3) * (IntKind.u32.wrap v5)))+(IntKind.u32.wrap v6))))))),v8,(IntKind.i64.wrap (s4.2.2+1))))) else (some (.inr (s4.1,s4.2.1)))
def oK (N:Nat) (x0:(List Int)) (x1:(List Int)) (s2:((List Int)×Int)):Option (((List Int)×Int) ⊕ (List Int)) :=
  bif (ax .lss s2.2 (List.length x0:Int)) then ((idx x0 s2.2).bind fun v3=>(bD (oL N x1 s2 v3) N (s2.1,0,0)).bind fun FV=>(idx FV.1 (IntKind.i64.wrap (s2.2+(List.length x1:Int)))).bind fun v12=>some (.inl ((List.set FV.1 (Int.toNat (IntKind.i64.wrap (s2.2+(List.length x1:Int)))) (IntKind.u16.wrap FV.2)),(IntKind.i64.wrap (s2.2+1))))) else (some (.inr s2.1))
def sD (N:Nat) (x0:(List Int)) (x1:(List Int)):Option ((List Int)) :=
  (mk 0 (IntKind.i64.wrap ((List.length x0:Int)+(List.length x1:Int))) (IntKind.i64.wrap ((List.length x0:Int)+(List.length x1:Int)))).bind fun v1=>(bD (oK N x0 x1) N (v1,0)).bind fun JJ=>(dP N JJ).bind fun v17=>some v17
def lG (N:Nat) (x0:dQ) (x1:dQ):Option (dQ) :=
  (dP N x0.Limbs).bind fun v1=>(dP N x1.Limbs).bind fun v2=>(sD N v1 v2).bind fun v3=>(eU N (!(x0.Neg == x1.Neg)) v3).bind fun v4=>some v4
def qc (N:Nat) (o2:((List Int)×(List Int))) (s5:((List Int)×Int×Int)):Option (((List Int)×Int×Int) ⊕ ((List Int)×Int)) :=
  bif (ax .lss s5.2.2 (List.length o2.1:Int)) then ((idx o2.1 s5.2.2).bind fun v6=>((bif (ax .lss s5.2.2 (List.length o2.2:Int)) then ((idx o2.2 s5.2.2).bind fun v7=>some (IntKind.u32.wrap ((IntKind.u32.wrap (s5.2.1+(IntKind.u32.wrap v6)))+(IntKind.u32.wrap v7)))) else (some (IntKind.u32.wrap (s5.2.1+(IntKind.u32.wrap v6))))):Option Int).bind fun o9=>(app s5.1 [(IntKind.u16.wrap o9)]).bind fun v11=>(zX .u32 o9 16).bind fun v12=>some (.inl (v11,v12,(IntKind.i64.wrap (s5.2.2+1))))) else (some (.inr (s5.1,s5.2.1)))
def tX (N:Nat) (x0:(List Int)) (x1:(List Int)):Option ((List Int)) :=
  ((bif (ax .lss (List.length x0:Int) (List.length x1:Int)) then (some (x1,x0)) else (some (x0,x1))):Option ((List Int)×(List Int))).bind fun o2=>(mk 0 0 (IntKind.i64.wrap ((List.length o2.1:Int)+1))).bind fun v4=>(bD (qc N o2) N (v4,0,0)).bind fun wX=>(app wX.1 [(IntKind.u16.wrap wX.2)]).bind fun v16=>(dP N v16).bind fun v17=>some v17
def oM (N:Nat) (x0:(List Int)) (x1:(List Int)) (s2:((List Int)×Int×Int)):Option (((List Int)×Int×Int) ⊕ (List Int)) :=
  bif (ax .lss s2.2.2 (List.length x0:Int)) then ((idx x0 s2.2.2).bind fun v3=>((bif (ax .lss s2.2.2 (List.length x1:Int)) then ((idx x1 s2.2.2).bind fun v4=>some (IntKind.u32.wrap (s2.2.1+(IntKind.u32.wrap v4)))) else (some s2.2.1)):Option Int).bind fun o6=>bif (ax .lss (IntKind.u32.wrap v3) o6) then ((BI .u32 1 16).bind fun v8=>(idx s2.1 s2.2.2).bind fun v9=>some (.inl ((List.set s2.1 (Int.toNat s2.2.2) (IntKind.u16.wrap (IntKind.u32.wrap ((IntKind.u32.wrap ((IntKind.u32.wrap v3)+v8)) - o6)))),1,(IntKind.i64.wrap (s2.2.2+1))))) else ((BI .u32 0 16).bind fun v10=>(idx s2.1 s2.2.2).bind fun v11=>some (.inl ((List.set s2.1 (Int.toNat s2.2.2) (IntKind.u16.wrap (IntKind.u32.wrap ((IntKind.u32.wrap ((IntKind.u32.wrap v3)+v10)) - o6)))),0,(IntKind.i64.wrap (s2.2.2+1)))))) else (some (.inr s2.1))
def pq (N:Nat) (x0:(List Int)) (x1:(List Int)):Option ((List Int)) :=
  (mk 0 (List.length x0:Int) (List.length x0:Int)).bind fun v1=>(bD (oM N x0 x1) N (v1,0,0)).bind fun wX=>(dP N wX).bind fun v16=>some v16
def vz (N:Nat) (x0:dQ) (x1:dQ):Option (dQ) :=
  (dP N x0.Limbs).bind fun v1=>(dP N x1.Limbs).bind fun v2=>bif (x0.Neg == x1.Neg) then ((tX N v1 v2).bind fun v3=>(eU N x0.Neg v3).bind fun v4=>some v4) else ((mQ N v1 v2).bind fun v5=>bif (ax .geq v5 0) then ((pq N v1 v2).bind fun v6=>(eU N x0.Neg v6).bind fun v7=>some v7) else ((pq N v2 v1).bind fun v8=>(eU N x1.Neg v8).bind fun v9=>some v9))
def qQ (N:Nat) (x0:fA) (x1:fA):Option (fA) :=
  (nX N x0).bind fun v1=>bif v1 then ((nY N x1).bind fun v2=>some v2) else ((nX N x1).bind fun v3=>bif v3 then ((nY N x0).bind fun v4=>some v4) else ((jH N x0).bind fun v5=>(jH N x1).bind fun v6=>(lG N x0.Num v6).bind fun v7=>(lG N x1.Num v5).bind fun v8=>(vz N v7 v8).bind fun v9=>(lG N v5 v6).bind fun v10=>(jh N v9 v10).bind fun v11=>some v11))
def qR (N:Nat) (x0:fA) (x1:fA):Option (fA) :=
  (lG N x0.Num x1.Num).bind fun v1=>(jH N x0).bind fun v2=>(jH N x1).bind fun v3=>(lG N v2 v3).bind fun v4=>(jh N v1 v4).bind fun v5=>some v5
def jV (N:Nat) (v2:fA) (s3:(List fA)) (s4:((List fA)×Int)):Option (((List fA)×Int) ⊕ (List fA)) :=
  bif (ax .lss s4.2 (IntKind.i64.wrap ((List.length s3:Int) - 1))) then ((idx s4.1 s4.2).bind fun v5=>(idx s4.1 (IntKind.i64.wrap (s4.2+1))).bind fun v6=>(qQ N v5 v6).bind fun v7=>(qR N v2 v7).bind fun v8=>(idx s4.1 s4.2).bind fun v9=>some (.inl ((List.set s4.1 (Int.toNat s4.2) v8),(IntKind.i64.wrap (s4.2+1))))) else (some (.inr s4.1))
def jU (N:Nat) (v2:fA) (s3:(List fA)):Option ((List fA) ⊕ (List fA)) :=
  bif (ax .gtr (List.length s3:Int) 1) then ((bD (jV N v2 s3) N (s3,0)).bind fun Hl=>(bif decide (0≤(IntKind.i64.wrap ((List.length Hl:Int) - 1)))&&decide ((IntKind.i64.wrap ((List.length Hl:Int) - 1))≤(List.length Hl:Int)) then some (List.take (Int.toNat (IntKind.i64.wrap ((List.length Hl:Int) - 1))) Hl) else none).bind fun v13=>some (.inl v13)) else (some (.inr s3))
def lH (N:Nat) (x0:(List jg)):Option (fA×Int) :=
  (qi N x0).bind fun v1=>bif (ax .neq v1.2 0) then (some ((⟨(⟨false,[]⟩:dQ),(⟨false,[]⟩:dQ)⟩:fA),v1.2)) else ((nV N 1 2).bind fun v2=>(bD (jU N v2) N v1.1).bind fun o16=>(idx o16 0).bind fun v18=>some (v18,0))
def kP (N:Nat) (x0:Int):Option (Bool) :=
  some (((ax .geq x0 97)&&(ax .leq x0 122))||((ax .geq x0 65)&&(ax .leq x0 90)))
def jW (N:Nat) (x0:Str) (s3:Int):Option (Int ⊕ (Unit ⊕ Bool)) :=
  bif (ax .lss s3 (List.length x0:Int)) then ((idx x0 s3).bind fun v4=>(kP N ((UInt8.toNat v4:Nat):Int)).bind fun v5=>bif (((!v5)&&(ax .neq ((UInt8.toNat v4:Nat):Int) 45))&&((ax .lss ((UInt8.toNat v4:Nat):Int) 48)||(ax .gtr ((UInt8.toNat v4:Nat):Int) 57))) then (some (.inr (Sum.inr false))) else (some (.inl (IntKind.i64.wrap (s3+1))))) else (some (.inr (Sum.inl ())))
def mM (N:Nat) (x0:Str):Option (Bool) :=
  (bif (!((ax .lss (List.length x0:Int) 1)||(ax .gtr (List.length x0:Int) 12))) then (idx x0 0) else some 0).bind fun v1=>(bif (!((ax .lss (List.length x0:Int) 1)||(ax .gtr (List.length x0:Int) 12))) then (kP N ((UInt8.toNat v1:Nat):Int)) else some false).bind fun v2=>bif (((ax .lss (List.length x0:Int) 1)||(ax .gtr (List.length x0:Int) 12))||(!v2)) then (some false) else ((bD (jW N x0) N 0).bind fun o8=>Sum.elim (fun l10=>some true) (fun r11=>some r11) o8)
def iY (N:Nat) (x0:GPanel):Option (Int) :=
  (mM N x0.Name).bind fun v1=>bif (!v1) then (some 4) else ((bif (!((ax .lss x0.Rows 1)||(ax .lss x0.gW 1))) then (iD N 100 20000 [x0.ku]) else some false).bind fun v2=>bif (((ax .lss x0.Rows 1)||(ax .lss x0.gW 1))||(!v2)) then (some 2) else (bif (((ax .gtr x0.Rows 400)||(ax .gtr x0.gW 400))||(ax .gtr (IntKind.i64.wrap (x0.Rows * x0.gW)) 400)) then (some 8) else (bif (ax .neq (List.length x0.Readings:Int) (IntKind.i64.wrap (x0.Rows * x0.gW))) then (some 11) else ((iD N 0 20000 x0.Readings).bind fun v3=>bif (!v3) then (some 2) else (some 0)))))
def jo (N:Nat) (x0:GRule):Option (Int) :=
  bif (((ax .lss x0.dR 0)||(ax .gtr x0.dR x0.oG))||(ax .gtr x0.oG 1000)) then (some 2) else (some 0)
def pz (N:Nat) (x0:GPanel) (x1:Int):Option (Int) :=
  bif (ax .eql x1 0) then (some 0) else (some (max (IntKind.i64.wrap (x0.ku - x1)) 0))
def lI (N:Nat) (x0:GPanel) (x1:GRule) (x2:Int):Option (Int) :=
  (pz N x0 x2).bind fun v1=>bif (ax .eql x2 0) then (some 0) else (bif (ax .geq (IntKind.i64.wrap (1000 * v1)) (IntKind.i64.wrap (x1.oG * x0.ku))) then (some 3) else (bif (ax .geq (IntKind.i64.wrap (1000 * v1)) (IntKind.i64.wrap (x1.dR * x0.ku))) then (some 2) else (some 1)))
def iQ (N:Nat) (x0:GPanel) (x1:GRule) (s3:((List Int)×Int)):Option (((List Int)×Int) ⊕ (List Int)) :=
  bif (ax .lss s3.2 (List.length x0.Readings:Int)) then ((idx x0.Readings s3.2).bind fun v4=>(lI N x0 x1 v4).bind fun v5=>(app s3.1 [v5]).bind fun v6=>some (.inl (v6,(IntKind.i64.wrap (s3.2+1))))) else (some (.inr s3.1))
def jq (N:Nat) (x0:GPanel) (x1:GRule):Option ((List Int)×Int) :=
  (iY N x0).bind fun v1=>bif (ax .neq v1 0) then (some ([],v1)) else ((jo N x1).bind fun v2=>bif (ax .neq v2 0) then (some ([],v2)) else ((bD (iQ N x0 x1) N ([],0)).bind fun o8=>some (o8,0)))
def qf (N:Nat) (s1:(Int×(List Int))):Option ((Int×(List Int)) ⊕ (List Int)) :=
  bif (ax .gtr s1.1 0) then ((app s1.2 [(IntKind.u16.wrap (sW .and .u64 s1.1 65535))]).bind fun v2=>(zX .u64 s1.1 16).bind fun v3=>some (.inl (v3,v2))) else (some (.inr s1.2))
def qw (N:Nat) (x0:Int):Option ((List Int)) :=
  (bD (qf N) N (x0,[])).bind fun o5=>some o5
def xY (N:Nat) (x0:Int):Option (dQ) :=
  bif (ax .lss x0 0) then ((qw N (IntKind.u64.wrap ((IntKind.u64.wrap (IntKind.i64.wrap (0 - (IntKind.i64.wrap (x0+1)))))+1))).bind fun v1=>some (⟨true,v1⟩:dQ)) else ((qw N (IntKind.u64.wrap x0)).bind fun v2=>some (⟨false,v2⟩:dQ))
def Aw (N:Nat) (x0:Int):Option (fA) :=
  (xY N x0).bind fun v1=>(xY N 1).bind fun v2=>some (⟨v1,v2⟩:fA)
def nM (N:Nat) (x0:dQ) (x1:dQ) (s1:Int):Option (Int ⊕ (Unit ⊕ Bool)) :=
  bif (ax .lss s1 (List.length x0.Limbs:Int)) then ((idx x0.Limbs s1).bind fun v2=>(idx x1.Limbs s1).bind fun v3=>bif (ax .neq v2 v3) then (some (.inr (Sum.inr false))) else (some (.inl (IntKind.i64.wrap (s1+1))))) else (some (.inr (Sum.inl ())))
def nK (N:Nat) (x0:dQ) (x1:dQ):Option (Bool) :=
  bif ((!(x0.Neg == x1.Neg))||(ax .neq (List.length x0.Limbs:Int) (List.length x1.Limbs:Int))) then (some false) else ((bD (nM N x0 x1) N 0).bind fun o6=>Sum.elim (fun l8=>some true) (fun r9=>some r9) o6)
def qV (N:Nat) (x0:fA) (x1:fA):Option (Bool) :=
  (nK N x0.Num x1.Num).bind fun v1=>(bif v1 then (nK N x0.Jp x1.Jp) else some false).bind fun v2=>some (v1&&v2)
def qW (N:Nat) (x0:(List Int)) (x1:(List Int)) (s1:Int):Option (Int ⊕ (Unit ⊕ Bool)) :=
  bif (ax .lss s1 (List.length x0:Int)) then ((idx x0 s1).bind fun v2=>(idx x1 s1).bind fun v3=>bif (ax .neq v2 v3) then (some (.inr (Sum.inr false))) else (some (.inl (IntKind.i64.wrap (s1+1))))) else (some (.inr (Sum.inl ())))
def vF (N:Nat) (x0:(List Int)) (x1:(List Int)):Option (Bool) :=
  bif (ax .neq (List.length x0:Int) (List.length x1:Int)) then (some false) else ((bD (qW N x0 x1) N 0).bind fun o6=>Sum.elim (fun l8=>some true) (fun r9=>some r9) o6)
def pF (N:Nat):Option (Bool) :=
  (lH N [(⟨0,100,1000,false⟩:jg),(⟨200,125,1000,true⟩:jg),(⟨400,100,1000,false⟩:jg)]).bind fun v1=>(jq N (⟨([80]:Str),1,4,1000,[950,800,0,700]⟩:GPanel) (⟨150,250⟩:GRule)).bind fun v2=>(bif (ax .eql v1.2 0) then (Aw N 9) else some (⟨(⟨false,[]⟩:dQ),(⟨false,[]⟩:dQ)⟩:fA)).bind fun v3=>(bif (ax .eql v1.2 0) then (qV N v1.1 v3) else some false).bind fun v4=>(bif (((ax .eql v1.2 0)&&v4)&&(ax .eql v2.2 0)) then (vF N v2.1 [1,2,0,3]) else some false).bind fun v5=>some ((((ax .eql v1.2 0)&&v4)&&(ax .eql v2.2 0))&&v5)
def qx (N:Nat) (x0:GPanel):Option (Bool) :=
  some ((ax .leq (List.length x0.Readings:Int) 410)&&(ax .leq (List.length x0.Name:Int) 50))
def iU (N:Nat) (x0:ak) (x1:ak):Option (ak) :=
  some (⟨(min x0.X x1.X),(min x0.Y x1.Y),(IntKind.i64.wrap ((max (IntKind.i64.wrap (x0.X+x0.W)) (IntKind.i64.wrap (x1.X+x1.W))) - (min x0.X x1.X))),(IntKind.i64.wrap ((max (IntKind.i64.wrap (x0.Y+x0.H)) (IntKind.i64.wrap (x1.Y+x1.H))) - (min x0.Y x1.Y)))⟩:ak)
def eF (N:Nat) (x0:GPanel) (x1:(List Int)) (v10:Int) (v12:Int) (s14:((List Bool)×(List Int)×Int)):Option (((List Bool)×(List Int)×Int) ⊕ ((List Bool)×(List Int))) :=
  bif (ax .lss s14.2.2 4) then ((idx [[1,0],[(-1),0],[0,1],[0,(-1)]] s14.2.2).bind fun v15=>(idx v15 0).bind fun v16=>(idx v15 1).bind fun v17=>bif ((((ax .lss (IntKind.i64.wrap (v10+v16)) 0)||(ax .geq (IntKind.i64.wrap (v10+v16)) x0.gW))||(ax .lss (IntKind.i64.wrap (v12+v17)) 0))||(ax .geq (IntKind.i64.wrap (v12+v17)) x0.Rows)) then (some (.inl (s14.1,s14.2.1,(IntKind.i64.wrap (s14.2.2+1))))) else ((idx x1 (IntKind.i64.wrap ((IntKind.i64.wrap ((IntKind.i64.wrap (v12+v17)) * x0.gW))+(IntKind.i64.wrap (v10+v16))))).bind fun v18=>(bif (ax .eql v18 3) then (idx s14.1 (IntKind.i64.wrap ((IntKind.i64.wrap ((IntKind.i64.wrap (v12+v17)) * x0.gW))+(IntKind.i64.wrap (v10+v16))))) else some false).bind fun v19=>bif ((ax .eql v18 3)&&(!v19)) then ((idx s14.1 (IntKind.i64.wrap ((IntKind.i64.wrap ((IntKind.i64.wrap (v12+v17)) * x0.gW))+(IntKind.i64.wrap (v10+v16))))).bind fun v20=>(app s14.2.1 [(IntKind.i64.wrap ((IntKind.i64.wrap ((IntKind.i64.wrap (v12+v17)) * x0.gW))+(IntKind.i64.wrap (v10+v16))))]).bind fun v21=>some (.inl ((List.set s14.1 (Int.toNat (IntKind.i64.wrap ((IntKind.i64.wrap ((IntKind.i64.wrap (v12+v17)) * x0.gW))+(IntKind.i64.wrap (v10+v16))))) true),v21,(IntKind.i64.wrap (s14.2.2+1))))) else (some (.inl (s14.1,s14.2.1,(IntKind.i64.wrap (s14.2.2+1))))))) else (some (.inr (s14.1,s14.2.1)))
def dJ (N:Nat) (x0:GPanel) (x1:(List Int)) (s8:((List Bool)×ak×(List Int))):Option (((List Bool)×ak×(List Int)) ⊕ ((List Bool)×ak)) :=
  bif (ax .gtr (List.length s8.2.2:Int) 0) then ((idx s8.2.2 0).bind fun v9=>(zW v9 x0.gW).bind fun v10=>(idx s8.2.2 0).bind fun v11=>(AZ .i64 v11 x0.gW).bind fun v12=>(iU N s8.2.1 (⟨v10,v12,1,1⟩:ak)).bind fun v13=>(bD (eF N x0 x1 v10 v12) N (s8.1,s8.2.2,0)).bind fun o25=>(zV o25.2 1 (List.length o25.2:Int)).bind fun v27=>some (.inl (o25.1,v13,v27))) else (some (.inr (s8.1,s8.2.1)))
def gJ (N:Nat) (x0:GPanel) (x1:(List Int)) (s2:((List ak)×(List Bool)×Int)):Option (((List ak)×(List Bool)×Int) ⊕ (List ak)) :=
  bif (ax .lss s2.2.2 (List.length x1:Int)) then ((idx x1 s2.2.2).bind fun v3=>(bif (!(ax .neq v3 3)) then (idx s2.2.1 s2.2.2) else some false).bind fun v4=>bif ((ax .neq v3 3)||v4) then (some (.inl (s2.1,s2.2.1,(IntKind.i64.wrap (s2.2.2+1))))) else ((idx s2.2.1 s2.2.2).bind fun v5=>(zW s2.2.2 x0.gW).bind fun v6=>(AZ .i64 s2.2.2 x0.gW).bind fun v7=>(bD (dJ N x0 x1) N ((List.set s2.2.1 (Int.toNat s2.2.2) true),(⟨v6,v7,1,1⟩:ak),[s2.2.2])).bind fun o30=>(app s2.1 [o30.2]).bind fun v32=>some (.inl (v32,o30.1,(IntKind.i64.wrap (s2.2.2+1)))))) else (some (.inr s2.1))
def kM (N:Nat) (x0:GPanel) (x1:(List Int)):Option ((List ak)) :=
  (mk false (List.length x1:Int) (List.length x1:Int)).bind fun v1=>(bD (gJ N x0 x1) N ([],v1,0)).bind fun o36=>some o36
def gy (N:Nat) (x0:(List ak)) (x1:(ak→ak→Option Int)):Option (List ak):=BZ x1 x0
def jS (N:Nat) (x0:Int):Option (Bool) :=
  some (ax .neq x0 x0)
def gQ (N:Nat) (x0:Int) (x1:Int):Option (Int) :=
  (jS N x0).bind fun v1=>(jS N x1).bind fun v2=>bif v1 then (bif v2 then (some 0) else (some (-1))) else (bif v2 then (some 1) else (bif (ax .lss x0 x1) then (some (-1)) else (bif (ax .gtr x0 x1) then (some 1) else (some 0))))
def iq (N:Nat) (x0:(List Int)) (s1:Int):Option (Int ⊕ (Unit ⊕ Int)) :=
  bif (ax .lss s1 (List.length x0:Int)) then ((idx x0 s1).bind fun v2=>bif (ax .neq v2 0) then (some (.inr (Sum.inr v2))) else (some (.inl (IntKind.i64.wrap (s1+1))))) else (some (.inr (Sum.inl ())))
def pO (N:Nat) (x0:(List Int)):Option (Int) :=
  (bD (iq N x0) N 0).bind fun o5=>Sum.elim (fun l7=>some 0) (fun r8=>some r8) o5
def fK (N:Nat) (x0:ak) (x1:ak):Option (Int) :=
  (gQ N x0.Y x1.Y).bind fun v1=>(gQ N x0.X x1.X).bind fun v2=>(gQ N x0.H x1.H).bind fun v3=>(gQ N x0.W x1.W).bind fun v4=>(pO N [v1,v2,v3,v4]).bind fun v5=>some v5
def je (N:Nat) (x0:(List ak)):Option ((List ak)) :=
  (gy N x0 (fun y0 y1=>fK N y0 y1)).bind fun v1=>some v1
def mG (N:Nat) (x0:ak) (x1:ak):Option (Bool) :=
  some ((((ax .lss x0.X (IntKind.i64.wrap (x1.X+x1.W)))&&(ax .lss x1.X (IntKind.i64.wrap (x0.X+x0.W))))&&(ax .lss x0.Y (IntKind.i64.wrap (x1.Y+x1.H))))&&(ax .lss x1.Y (IntKind.i64.wrap (x0.Y+x0.H))))
def dN (N:Nat) (x0:(List ak)) (x1:Int) (x2:Int):Option ((List ak)) :=
  (Gz x1 x2 (List.length x0:Int) (List.length x0:Int)).bind fun v1=>bif (ax .eql x1 x2) then (some x0) else ((zV x0 0 x1).bind fun v2=>(zV x0 x2 (List.length x0:Int)).bind fun v3=>(GK x0 (Int.toNat 0) (Int.toNat x1 - Int.toNat 0) (Int.toNat x2) (Int.toNat (List.length x0:Int) - Int.toNat x2)).bind fun v4=>(bif Nat.beq (Int.toNat (List.length v4:Int)) (List.length v4)&&Nat.ble (Int.toNat (List.length v4:Int)) (Int.toNat (List.length x0:Int))&&Nat.ble (Int.toNat (List.length x0:Int)) (List.length x0)&&decide (0≤(List.length v4:Int))&&decide (0≤(List.length x0:Int)) then some () else none).bind fun v5=>some v4)
def iI (N:Nat) (s1:((List ak)×Int)) (s2:((List ak)×Int)):Option (((List ak)×Int) ⊕ ((List ak) ⊕ ((List ak)×Bool))) :=
  bif (ax .lss s2.2 (List.length s2.1:Int)) then ((idx s2.1 s1.2).bind fun v3=>(idx s2.1 s2.2).bind fun v4=>(mG N v3 v4).bind fun v5=>bif v5 then ((idx s2.1 s1.2).bind fun v6=>(idx s2.1 s2.2).bind fun v7=>(iU N v6 v7).bind fun v8=>(idx s2.1 s1.2).bind fun v9=>(dN N (List.set s2.1 (Int.toNat s1.2) v8) s2.2 (IntKind.i64.wrap (s2.2+1))).bind fun v10=>some (.inr (Sum.inr (v10,true)))) else (some (.inl (s2.1,(IntKind.i64.wrap (s2.2+1)))))) else (some (.inr (Sum.inl s2.1)))
def gK (N:Nat) (x0:(List ak)) (s1:((List ak)×Int)):Option (((List ak)×Int) ⊕ ((List ak) ⊕ ((List ak)×Bool))) :=
  bif (ax .lss s1.2 (List.length x0:Int)) then ((bD (iI N s1) N (s1.1,(IntKind.i64.wrap (s1.2+1)))).bind fun o13=>Sum.elim (fun l15=>some (.inl (l15,(IntKind.i64.wrap (s1.2+1))))) (fun r16=>some (.inr (Sum.inr (r16.1,r16.2)))) o13) else (some (.inr (Sum.inl s1.1)))
def kN (N:Nat) (x0:(List ak)):Option ((List ak)×Bool) :=
  (bD (gK N x0) N (x0,0)).bind fun H6=>Sum.elim (fun l21=>some (l21,false)) (fun r22=>some (r22.1,r22.2)) H6
def bV (N:Nat) (s4:((List ak)×Bool)):Option (((List ak)×Bool) ⊕ (List ak)) :=
  bif s4.2 then ((kN N s4.1).bind fun v5=>(je N v5.1).bind fun v6=>some (.inl (v6,v5.2))) else (some (.inr s4.1))
def iw (N:Nat) (x0:GPanel) (x1:GRule):Option ((List ak)×Int) :=
  (jq N x0 x1).bind fun v1=>bif (ax .neq v1.2 0) then (some ([],v1.2)) else ((kM N x0 v1.1).bind fun v2=>(je N v2).bind fun v3=>(bD (bV N) N (v3,true)).bind fun o8=>some (o8,0))
def oJ (N:Nat) (x0:Str) (s1:Int):Option (Int ⊕ (Unit ⊕ Bool)) :=
  bif (ax .lss s1 (List.length x0:Int)) then ((idx x0 s1).bind fun v2=>bif ((!(((ax .geq ((UInt8.toNat v2:Nat):Int) 97)&&(ax .leq ((UInt8.toNat v2:Nat):Int) 122))||((ax .geq ((UInt8.toNat v2:Nat):Int) 65)&&(ax .leq ((UInt8.toNat v2:Nat):Int) 90))))&&((ax .eql s1 0)||((ax .neq ((UInt8.toNat v2:Nat):Int) 45)&&((ax .lss ((UInt8.toNat v2:Nat):Int) 48)||(ax .gtr ((UInt8.toNat v2:Nat):Int) 57))))) then (some (.inr (Sum.inr false))) else (some (.inl (IntKind.i64.wrap (s1+1))))) else (some (.inr (Sum.inl ())))
def oZ (N:Nat) (x0:Str):Option (Bool) :=
  bif ((ax .lss (List.length x0:Int) 1)||(ax .gtr (List.length x0:Int) 12)) then (some false) else ((bD (oJ N x0) N 0).bind fun o5=>Sum.elim (fun l7=>some true) (fun r8=>some r8) o5)
def lD (N:Nat) (x0:Int) (x1:Int) (x2:Int):Option (Bool) :=
  some ((ax .geq x0 x1)&&(ax .leq x0 x2))
def gu (N:Nat) (x0:GPanel) (s3:Int):Option (Int ⊕ (Unit ⊕ Int)) :=
  bif (ax .lss s3 (List.length x0.Readings:Int)) then ((idx x0.Readings s3).bind fun v4=>(lD N v4 0 20000).bind fun v5=>bif (!v5) then (some (.inr (Sum.inr 2))) else (some (.inl (IntKind.i64.wrap (s3+1))))) else (some (.inr (Sum.inl ())))
def jl (N:Nat) (x0:GPanel):Option (Int) :=
  (oZ N x0.Name).bind fun v1=>bif (!v1) then (some 4) else ((bif (!((ax .lss x0.Rows 1)||(ax .lss x0.gW 1))) then (lD N x0.ku 100 20000) else some false).bind fun v2=>bif (((ax .lss x0.Rows 1)||(ax .lss x0.gW 1))||(!v2)) then (some 2) else (bif (((ax .gtr x0.Rows 400)||(ax .gtr x0.gW 400))||(ax .gtr (IntKind.i64.wrap (x0.Rows * x0.gW)) 400)) then (some 8) else (bif (ax .neq (List.length x0.Readings:Int) (IntKind.i64.wrap (x0.Rows * x0.gW))) then (some 11) else ((bD (gu N x0) N 0).bind fun o8=>Sum.elim (fun l10=>some 0) (fun r11=>some r11) o8))))
def jE (N:Nat) (x0:GRule):Option (Int) :=
  bif (((ax .lss x0.dR 0)||(ax .gtr x0.dR x0.oG))||(ax .gtr x0.oG 1000)) then (some 2) else (some 0)
def jm (N:Nat) (x0:GPanel) (x1:GRule):Option (Int) :=
  (jl N x0).bind fun v1=>bif (ax .neq v1 0) then (some v1) else ((jE N x1).bind fun v2=>some v2)
def jf (N:Nat) (x0:GPanel) (x1:GRule) (s1:((List Int)×Int)):Option (((List Int)×Int) ⊕ (List Int)) :=
  bif (ax .lss s1.2 (List.length x0.Readings:Int)) then ((idx x0.Readings s1.2).bind fun v2=>(idx x0.Readings s1.2).bind fun v3=>bif (ax .eql v3 0) then ((app s1.1 [0]).bind fun v4=>some (.inl (v4,(IntKind.i64.wrap (s1.2+1))))) else (bif (ax .geq (IntKind.i64.wrap (1000 * (max (IntKind.i64.wrap (x0.ku - v2)) 0))) (IntKind.i64.wrap (x1.oG * x0.ku))) then ((app s1.1 [3]).bind fun v5=>some (.inl (v5,(IntKind.i64.wrap (s1.2+1))))) else (bif (ax .geq (IntKind.i64.wrap (1000 * (max (IntKind.i64.wrap (x0.ku - v2)) 0))) (IntKind.i64.wrap (x1.dR * x0.ku))) then ((app s1.1 [2]).bind fun v6=>some (.inl (v6,(IntKind.i64.wrap (s1.2+1))))) else ((app s1.1 [1]).bind fun v7=>some (.inl (v7,(IntKind.i64.wrap (s1.2+1)))))))) else (some (.inr s1.1))
def mJ (N:Nat) (x0:GPanel) (x1:GRule):Option ((List Int)) :=
  (bD (jf N x0 x1) N ([],0)).bind fun o12=>some o12
def fQ (N:Nat) (x0:GPanel) (x1:(List Int)) (v8:Int) (v10:Int) (s12:((List Bool)×(List Int)×Int)):Option (((List Bool)×(List Int)×Int) ⊕ ((List Bool)×(List Int))) :=
  bif (ax .lss s12.2.2 4) then ((idx [1,(-1),0,0] s12.2.2).bind fun v13=>(idx [0,0,1,(-1)] s12.2.2).bind fun v14=>bif ((((ax .lss (IntKind.i64.wrap (v8+v13)) 0)||(ax .lss (IntKind.i64.wrap (v10+v14)) 0))||(ax .geq (IntKind.i64.wrap (v8+v13)) x0.gW))||(ax .geq (IntKind.i64.wrap (v10+v14)) x0.Rows)) then (some (.inl (s12.1,s12.2.1,(IntKind.i64.wrap (s12.2.2+1))))) else ((idx x1 (IntKind.i64.wrap ((IntKind.i64.wrap ((IntKind.i64.wrap (v10+v14)) * x0.gW))+(IntKind.i64.wrap (v8+v13))))).bind fun v15=>(bif (ax .eql v15 3) then (idx s12.1 (IntKind.i64.wrap ((IntKind.i64.wrap ((IntKind.i64.wrap (v10+v14)) * x0.gW))+(IntKind.i64.wrap (v8+v13))))) else some false).bind fun v16=>bif ((ax .eql v15 3)&&(!v16)) then ((idx s12.1 (IntKind.i64.wrap ((IntKind.i64.wrap ((IntKind.i64.wrap (v10+v14)) * x0.gW))+(IntKind.i64.wrap (v8+v13))))).bind fun v17=>(app s12.2.1 [(IntKind.i64.wrap ((IntKind.i64.wrap ((IntKind.i64.wrap (v10+v14)) * x0.gW))+(IntKind.i64.wrap (v8+v13))))]).bind fun v18=>some (.inl ((List.set s12.1 (Int.toNat (IntKind.i64.wrap ((IntKind.i64.wrap ((IntKind.i64.wrap (v10+v14)) * x0.gW))+(IntKind.i64.wrap (v8+v13))))) true),v18,(IntKind.i64.wrap (s12.2.2+1))))) else (some (.inl (s12.1,s12.2.1,(IntKind.i64.wrap (s12.2.2+1))))))) else (some (.inr (s12.1,s12.2.1)))
def dV (N:Nat) (x0:GPanel) (x1:(List Int)) (s6:((List Bool)×(List Int)×Int×Int×Int×Int)):Option (((List Bool)×(List Int)×Int×Int×Int×Int) ⊕ ((List Bool)×Int×Int×Int×Int)) :=
  bif (ax .gtr (List.length s6.2.1:Int) 0) then ((idx s6.2.1 0).bind fun v7=>(zW v7 x0.gW).bind fun v8=>(idx s6.2.1 0).bind fun v9=>(AZ .i64 v9 x0.gW).bind fun v10=>(zV s6.2.1 1 (List.length s6.2.1:Int)).bind fun v11=>(bD (fQ N x0 x1 v8 v10) N (s6.1,v11,0)).bind fun o22=>some (.inl (o22.1,o22.2,(min s6.2.2.1 v8),(max s6.2.2.2.1 v8),(min s6.2.2.2.2.1 v10),(max s6.2.2.2.2.2 v10)))) else (some (.inr (s6.1,s6.2.2.1,s6.2.2.2.1,s6.2.2.2.2.1,s6.2.2.2.2.2)))
def mg (N:Nat) (x0:GPanel) (x1:(List Int)) (x2:(List Bool)) (x3:Int):Option ((List Bool)×ak) :=
  (idx x2 x3).bind fun v1=>(zW x3 x0.gW).bind fun v2=>(zW x3 x0.gW).bind fun v3=>(AZ .i64 x3 x0.gW).bind fun v4=>(AZ .i64 x3 x0.gW).bind fun v5=>(bD (dV N x0 x1) N ((List.set x2 (Int.toNat x3) true),[x3],v2,v3,v4,v5)).bind fun Bv=>some (Bv.1,(⟨Bv.2.1,Bv.2.2.2.1,(IntKind.i64.wrap ((IntKind.i64.wrap (Bv.2.2.1 - Bv.2.1))+1)),(IntKind.i64.wrap ((IntKind.i64.wrap (Bv.2.2.2.2 - Bv.2.2.2.1))+1))⟩:ak))
def mr (N:Nat) (x0:ak) (x1:ak):Option (Bool) :=
  bif (ax .neq x0.Y x1.Y) then (some (ax .lss x0.Y x1.Y)) else (bif (ax .neq x0.X x1.X) then (some (ax .lss x0.X x1.X)) else (bif (ax .neq x0.H x1.H) then (some (ax .lss x0.H x1.H)) else (some (ax .lss x0.W x1.W))))
def gY (N:Nat) (x0:(List ak)) (x1:ak) (s1:Int):Option (Int ⊕ Int) :=
  (bif (ax .lss s1 (List.length x0:Int)) then (idx x0 s1) else some (⟨0,0,0,0⟩:ak)).bind fun v2=>(bif (ax .lss s1 (List.length x0:Int)) then (mr N x1 v2) else some false).bind fun v3=>bif ((ax .lss s1 (List.length x0:Int))&&(!v3)) then (some (.inl (IntKind.i64.wrap (s1+1)))) else (some (.inr s1))
def lq (N:Nat) (x0:(List ak)) (x1:ak):Option ((List ak)) :=
  (bD (gY N x0 x1) N 0).bind fun o5=>(zV x0 0 o5).bind fun v7=>(app [] v7).bind fun v8=>(app v8 [x1]).bind fun v9=>(zV x0 o5 (List.length x0:Int)).bind fun v10=>(app v9 v10).bind fun v11=>some v11
def mP (N:Nat) (x0:ak) (x1:ak):Option (Bool) :=
  some ((((ax .lss x0.X (IntKind.i64.wrap (x1.X+x1.W)))&&(ax .lss x1.X (IntKind.i64.wrap (x0.X+x0.W))))&&(ax .lss x0.Y (IntKind.i64.wrap (x1.Y+x1.H))))&&(ax .lss x1.Y (IntKind.i64.wrap (x0.Y+x0.H))))
def nI (N:Nat) (x0:ak) (x1:ak):Option (ak) :=
  some (⟨(min x0.X x1.X),(min x0.Y x1.Y),(IntKind.i64.wrap ((max (IntKind.i64.wrap (x0.X+x0.W)) (IntKind.i64.wrap (x1.X+x1.W))) - (min x0.X x1.X))),(IntKind.i64.wrap ((max (IntKind.i64.wrap (x0.Y+x0.H)) (IntKind.i64.wrap (x1.Y+x1.H))) - (min x0.Y x1.Y)))⟩:ak)
def ig (N:Nat) (x0:(List ak)) (s1:Int) (s2:Int) (s9:((List ak)×Int)):Option (((List ak)×Int) ⊕ (List ak)) :=
  bif (ax .lss s9.2 (List.length x0:Int)) then (bif ((ax .neq s9.2 s1)&&(ax .neq s9.2 s2)) then ((idx x0 s9.2).bind fun v10=>(lq N s9.1 v10).bind fun v11=>some (.inl (v11,(IntKind.i64.wrap (s9.2+1))))) else (some (.inl (s9.1,(IntKind.i64.wrap (s9.2+1)))))) else (some (.inr s9.1))
def iP (N:Nat) (x0:(List ak)) (s1:Int) (s2:Int):Option (Int ⊕ (Unit ⊕ ((List ak)×Bool))) :=
  bif (ax .lss s2 (List.length x0:Int)) then ((idx x0 s1).bind fun v3=>(idx x0 s2).bind fun v4=>(mP N v3 v4).bind fun v5=>bif (!v5) then (some (.inl (IntKind.i64.wrap (s2+1)))) else ((bD (ig N x0 s1 s2) N ([],0)).bind fun wX=>(idx x0 s1).bind fun v16=>(idx x0 s2).bind fun v17=>(nI N v16 v17).bind fun v18=>(lq N wX v18).bind fun v19=>some (.inr (Sum.inr (v19,true))))) else (some (.inr (Sum.inl ())))
def gZ (N:Nat) (x0:(List ak)) (s1:Int):Option (Int ⊕ (Unit ⊕ ((List ak)×Bool))) :=
  bif (ax .lss s1 (List.length x0:Int)) then ((bD (iP N x0 s1) N (IntKind.i64.wrap (s1+1))).bind fun o23=>Sum.elim (fun l25=>some (.inl (IntKind.i64.wrap (s1+1)))) (fun r26=>some (.inr (Sum.inr (r26.1,r26.2)))) o23) else (some (.inr (Sum.inl ())))
def lu (N:Nat) (x0:(List ak)):Option ((List ak)×Bool) :=
  (bD (gZ N x0) N 0).bind fun o29=>Sum.elim (fun l31=>some (x0,false)) (fun r32=>some (r32.1,r32.2)) o29
def dL (N:Nat) (s17:(List ak)):Option ((List ak) ⊕ (List ak)) :=
  (lu N s17).bind fun v18=>bif (!v18.2) then (some (.inr s17)) else (some (.inl v18.1))
def eY (N:Nat) (x0:GPanel) (v1:(List Int)) (s8:((List Bool)×(List ak)×Int)):Option (((List Bool)×(List ak)×Int) ⊕ (List ak)) :=
  bif (ax .lss s8.2.2 (List.length v1:Int)) then ((idx v1 s8.2.2).bind fun v9=>(bif (ax .eql v9 3) then (idx s8.1 s8.2.2) else some false).bind fun v10=>bif ((ax .eql v9 3)&&(!v10)) then ((mg N x0 v1 s8.1 s8.2.2).bind fun v11=>(lq N s8.2.1 v11.2).bind fun v12=>some (.inl (v11.1,v12,(IntKind.i64.wrap (s8.2.2+1))))) else (some (.inl (s8.1,s8.2.1,(IntKind.i64.wrap (s8.2.2+1)))))) else (some (.inr s8.2.1))
def jR (N:Nat) (x0:GPanel) (x1:GRule):Option ((List ak)) :=
  (mJ N x0 x1).bind fun v1=>(mk false (List.length v1:Int) (List.length v1:Int)).bind fun v2=>(bD (eY N x0 v1) N (v2,[],0)).bind fun JJ=>(bD (dL N) N JJ).bind fun o20=>some o20
def jc (N:Nat) (x0:(List ak)) (x1:(List ak)) (s1:Int):Option (Int ⊕ (Unit ⊕ Bool)) :=
  bif (ax .lss s1 (List.length x0:Int)) then ((idx x0 s1).bind fun v2=>(idx x1 s1).bind fun v3=>bif (!(ak.eqb v2 v3)) then (some (.inr (Sum.inr false))) else (some (.inl (IntKind.i64.wrap (s1+1))))) else (some (.inr (Sum.inl ())))
def mF (N:Nat) (x0:(List ak)) (x1:(List ak)):Option (Bool) :=
  bif (ax .neq (List.length x0:Int) (List.length x1:Int)) then (some false) else ((bD (jc N x0 x1) N 0).bind fun o6=>Sum.elim (fun l8=>some true) (fun r9=>some r9) o6)
def iZ (N:Nat) (x0:GPanel) (x1:GRule):Option (Bool) :=
  (pF N).bind fun v1=>bif (!v1) then (some false) else ((qx N x0).bind fun v2=>bif ((!v2)||(ax .gtr (List.length x0.Readings:Int) 100)) then (some true) else ((iw N x0 x1).bind fun v3=>(jm N x0 x1).bind fun v4=>bif (ax .neq v4 0) then (some ((ax .eql v3.2 v4)&&(ax .eql (List.length v3.1:Int) 0))) else ((bif (ax .eql v3.2 0) then (jR N x0 x1) else some []).bind fun v5=>(bif (ax .eql v3.2 0) then (mF N v3.1 v5) else some false).bind fun v6=>some ((ax .eql v3.2 0)&&v6))))
end
end Go.KB
