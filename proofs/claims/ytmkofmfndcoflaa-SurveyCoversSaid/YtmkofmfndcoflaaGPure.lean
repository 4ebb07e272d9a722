/- The functions as plain Lean functions. Printed by a program. No condition. -/
import Derived.Test.YtmkofmfndcoflaaGTypes
import Derived.Test.YtmkofmfndcoflaaKSg
namespace Go.KB
set_option linter.unusedVariables false
noncomputable section
def jw (N:Nat) (x0:Int) (c0:Int) (c1:Int):Option (Bool) :=
  some ((ai .lss x0 c0)||(ai .gtr x0 c1))
def dS (N:Nat) (x0:(List Int)) (x1:(Int→Option Bool)) (s1:Int):Option (Int ⊕ (Unit ⊕ Int)) :=
  bif (ai .lss s1 (List.length x0:Int)) then ((idx x0 s1).bind fun v2=>(x1 v2).bind fun v3=>bif v3 then (some (.inr (Sum.inr s1))) else (some (.inl (IntKind.i64.wrap (s1+1))))) else (some (.inr (Sum.inl ())))
def fJ (N:Nat) (x0:(List Int)) (x1:(Int→Option Bool)):Option (Int) :=
  (bQ (dS N x0 x1) N 0).bind fun o6=>Sum.elim (fun l8=>some (-1)) (fun r9=>some r9) o6
def gy (N:Nat) (x0:(List Int)) (x1:(Int→Option Bool)):Option (Bool) :=
  (fJ N x0 x1).bind fun v1=>some (ai .geq v1 0)
def iD (N:Nat) (x0:Int) (x1:Int) (x2:(List Int)):Option (Bool) :=
  (gy N x2 (fun y0=>jw N y0 x0 x1)).bind fun v1=>some (!v1)
def kD (N:Nat) (x0:(List iZ)) (s1:Int):Option (Int ⊕ (Unit ⊕ Int)) :=
  bif (ai .lss s1 (List.length x0:Int)) then ((idx x0 s1).bind fun v2=>(iD N 0 1000000 [v2.Start]).bind fun v3=>(bif (!(!v3)) then (iD N 1 100000 [v2.uf,v2.yC]) else some false).bind fun v4=>bif ((!v3)||(!v4)) then (some (.inr (Sum.inr 2))) else (bif (ai .eql s1 0) then (some (.inl (IntKind.i64.wrap (s1+1)))) else ((idx x0 (IntKind.i64.wrap (s1 - 1))).bind fun v5=>bif (ai .leq v2.Start v5.Start) then (some (.inr (Sum.inr 10))) else (bif ((ai .gtr (IntKind.i64.wrap (v5.Start+v5.uf)) v2.Start)||(v5.Back == v2.Back)) then (some (.inr (Sum.inr 17))) else (some (.inl (IntKind.i64.wrap (s1+1)))))))) else (some (.inr (Sum.inl ())))
def lM (N:Nat) (x0:(List iZ)):Option (Int) :=
  bif (ai .lss (List.length x0:Int) 2) then (some 11) else (bif (ai .gtr (List.length x0:Int) 12) then (some 8) else ((bQ (kD N x0) N 0).bind fun Hr=>Sum.elim (fun l13=>some 0) (fun r14=>some r14) Hr))
def mM (N:Nat) (s1:(Int×(List Int))):Option ((Int×(List Int)) ⊕ (List Int)) :=
  bif (ai .gtr s1.1 0) then ((app s1.2 [(IntKind.u16.wrap s1.1)]).bind fun v2=>(zf .u64 s1.1 16).bind fun v3=>some (.inl (v3,v2))) else (some (.inr s1.2))
def kL (N:Nat) (x0:Int):Option ((List Int)) :=
  (bQ (mM N) N (x0,[])).bind fun o5=>some o5
def pX (N:Nat) (s1:(List Int)):Option ((List Int) ⊕ (List Int)) :=
  (bif (ai .gtr (List.length s1:Int) 0) then (idx s1 (IntKind.i64.wrap ((List.length s1:Int) - 1))) else some 0).bind fun v2=>bif ((ai .gtr (List.length s1:Int) 0)&&(ai .eql v2 0)) then ((ER s1 0 (IntKind.i64.wrap ((List.length s1:Int) - 1))).bind fun v3=>some (.inl v3)) else (some (.inr s1))
def dL (N:Nat) (x0:(List Int)):Option ((List Int)) :=
  (bQ (pX N) N x0).bind fun o5=>some o5
def dI (N:Nat) (x0:(List Int)):Option ((List Int)) :=
  (app ([]:(List Int)) x0).bind fun v1=>some v1
def dY (N:Nat) (x0:Bool) (x1:(List Int)):Option (dO) :=
  (dL N x1).bind fun v1=>bif (ai .eql (List.length v1:Int) 0) then (some (⟨false,[]⟩:dO)) else ((dI N v1).bind fun v2=>some (⟨x0,v2⟩:dO))
def tX (N:Nat) (x0:Int):Option (dO) :=
  bif (ai .lss x0 0) then ((kL N (IntKind.u64.wrap (0 - (IntKind.u64.wrap x0)))).bind fun v1=>(dY N true v1).bind fun v2=>some v2) else ((kL N (IntKind.u64.wrap x0)).bind fun v3=>(dY N false v3).bind fun v4=>some v4)
def pY (N:Nat) (x0:(List Int)) (s1:(Int×Int)):Option ((Int×Int) ⊕ Int) :=
  bif (ai .geq s1.2 0) then ((AU .u64 s1.1 16).bind fun v2=>(idx x0 s1.2).bind fun v3=>some (.inl ((jl .or .u64 v2 (IntKind.u64.wrap v3)),(IntKind.i64.wrap (s1.2 - 1))))) else (some (.inr s1.1))
def qy (N:Nat) (x0:(List Int)):Option (Int×Bool) :=
  bif (ai .gtr (List.length x0:Int) 4) then (some (0,false)) else ((bQ (pY N x0) N (0,(IntKind.i64.wrap ((List.length x0:Int) - 1)))).bind fun o5=>some (o5,true))
def mO (N:Nat) (x0:(List Int)) (x1:(List Int)) (s1:Int):Option (Int ⊕ (Unit ⊕ Int)) :=
  bif (ai .geq s1 0) then ((idx x0 s1).bind fun v2=>(idx x1 s1).bind fun v3=>bif (ai .neq v2 v3) then ((idx x0 s1).bind fun v4=>(idx x1 s1).bind fun v5=>some (.inr (Sum.inr (IntKind.i64.wrap ((IntKind.i64.wrap v4) - (IntKind.i64.wrap v5)))))) else (some (.inl (IntKind.i64.wrap (s1 - 1))))) else (some (.inr (Sum.inl ())))
def mg (N:Nat) (x0:(List Int)) (x1:(List Int)):Option (Int) :=
  bif (ai .neq (List.length x0:Int) (List.length x1:Int)) then (some (IntKind.i64.wrap ((List.length x0:Int) - (List.length x1:Int)))) else ((bQ (mO N x0 x1) N (IntKind.i64.wrap ((List.length x0:Int) - 1))).bind fun o8=>Sum.elim (fun l10=>some 0) (fun r11=>some r11) o8)
def oH (N:Nat) (x0:(List Int)) (x1:Int) (s2:((List Int)×Int×Int)):Option (((List Int)×Int×Int) ⊕ ((List Int)×Int)) :=
  bif (ai .geq s2.2.2 0) then ((AU .u32 s2.2.1 16).bind fun v3=>(idx x0 s2.2.2).bind fun v4=>(Ci .u32 (jl .or .u32 v3 (IntKind.u32.wrap v4)) (IntKind.u32.wrap x1)).bind fun v5=>(idx s2.1 s2.2.2).bind fun v6=>(Ac (jl .or .u32 v3 (IntKind.u32.wrap v4)) (IntKind.u32.wrap x1)).bind fun v7=>some (.inl ((List.set s2.1 (Int.toNat s2.2.2) (IntKind.u16.wrap v5)),v7,(IntKind.i64.wrap (s2.2.2 - 1))))) else (some (.inr (s2.1,s2.2.1)))
def rP (N:Nat) (x0:(List Int)) (x1:Int):Option ((List Int)×Int) :=
  (mk 0 (List.length x0:Int) (List.length x0:Int)).bind fun v1=>(bQ (oH N x0 x1) N (v1,0,(IntKind.i64.wrap ((List.length x0:Int) - 1)))).bind fun o9=>(dL N o9.1).bind fun v11=>some (v11,(IntKind.u16.wrap o9.2))
def tY (N:Nat) (x0:Int):Option (Int) :=
  bif (ai .geq x0 256) then ((zf .u16 x0 8).bind fun v1=>(idx ([0,1,2,2,3,3,3,3,4,4,4,4,4,4,4,4,5,5,5,5,5,5,5,5,5,5,5,5,5,5,5,5,6,6,6,6,6,6,6,6,6,6,6,6,6,6,6,6,6,6,6,6,6,6,6,6,6,6,6,6,6,6,6,6,7,7,7,7,7,7,7,7,7,7,7,7,7,7,7,7,7,7,7,7,7,7,7,7,7,7,7,7,7,7,7,7,7,7,7,7,7,7,7,7,7,7,7,7,7,7,7,7,7,7,7,7,7,7,7,7,7,7,7,7,7,7,7,7,8,8,8,8,8,8,8,8,8,8,8,8,8,8,8,8,8,8,8,8,8,8,8,8,8,8,8,8,8,8,8,8,8,8,8,8,8,8,8,8,8,8,8,8,8,8,8,8,8,8,8,8,8,8,8,8,8,8,8,8,8,8,8,8,8,8,8,8,8,8,8,8,8,8,8,8,8,8,8,8,8,8,8,8,8,8,8,8,8,8,8,8,8,8,8,8,8,8,8,8,8,8,8,8,8,8,8,8,8,8,8,8,8,8,8,8,8,8,8,8,8,8,8,8,8,8,8,8]:Str) (IntKind.u8.wrap v1)).bind fun v2=>some (IntKind.i64.wrap (8+(IntKind.i64.wrap ((UInt8.toNat v2:Nat):Int))))) else ((idx ([0,1,2,2,3,3,3,3,4,4,4,4,4,4,4,4,5,5,5,5,5,5,5,5,5,5,5,5,5,5,5,5,6,6,6,6,6,6,6,6,6,6,6,6,6,6,6,6,6,6,6,6,6,6,6,6,6,6,6,6,6,6,6,6,7,7,7,7,7,7,7,7,7,7,7,7,7,7,7,7,7,7,7,7,7,7,7,7,7,7,7,7,7,7,7,7,7,7,7,7,7,7,7,7,7,7,7,7,7,7,7,7,7,7,7,7,7,7,7,7,7,7,7,7,7,7,7,7,8,8,8,8,8,8,8,8,8,8,8,8,8,8,8,8,8,8,8,8,8,8,8,8,8,8,8,8,8,8,8,8,8,8,8,8,8,8,8,8,8,8,8,8,8,8,8,8,8,8,8,8,8,8,8,8,8,8,8,8,8,8,8,8,8,8,8,8,8,8,8,8,8,8,8,8,8,8,8,8,8,8,8,8,8,8,8,8,8,8,8,8,8,8,8,8,8,8,8,8,8,8,8,8,8,8,8,8,8,8,8,8,8,8,8,8,8,8,8,8,8,8,8,8,8,8,8,8]:Str) (IntKind.u8.wrap x0)).bind fun v3=>some (IntKind.i64.wrap (0+(IntKind.i64.wrap ((UInt8.toNat v3:Nat):Int)))))
def kP (N:Nat) (x0:Int):Option (Int) :=
  (tY N x0).bind fun v1=>some (IntKind.i64.wrap (16 - v1))
def jg (N:Nat) (x0:(List Int)) (x1:Int) (s2:((List Int)×Int)):Option (((List Int)×Int) ⊕ (List Int)) :=
  bif (ai .lss s2.2 (List.length x0:Int)) then ((idx x0 s2.2).bind fun v3=>(AU .u32 (IntKind.u32.wrap v3) x1).bind fun v4=>(idx s2.1 s2.2).bind fun v5=>(idx s2.1 s2.2).bind fun v6=>(zf .u32 v4 16).bind fun v7=>(idx (List.set s2.1 (Int.toNat s2.2) (jl .or .u16 v5 (IntKind.u16.wrap v4))) (IntKind.i64.wrap (s2.2+1))).bind fun v8=>some (.inl ((List.set (List.set s2.1 (Int.toNat s2.2) (jl .or .u16 v5 (IntKind.u16.wrap v4))) (Int.toNat (IntKind.i64.wrap (s2.2+1))) (IntKind.u16.wrap v7)),(IntKind.i64.wrap (s2.2+1))))) else (some (.inr s2.1))
def jo (N:Nat) (x0:(List Int)) (x1:Int):Option ((List Int)) :=
  (mk 0 (IntKind.i64.wrap ((List.length x0:Int)+1)) (IntKind.i64.wrap ((List.length x0:Int)+1))).bind fun v1=>(bQ (jg N x0 x1) N (v1,0)).bind fun FN=>some FN
def oL (N:Nat) (x1:(List Int)) (AL:((List Int)×Int×Int)):Option (((List Int)×Int×Int) ⊕ ((List Int)×Int)) :=
  bif (ai .lss AL.2.2 (List.length x1:Int)) then ((idx AL.1 AL.2.2).bind fun v29=>(idx x1 AL.2.2).bind fun v30=>(idx AL.1 AL.2.2).bind fun v31=>(zf .u32 (IntKind.u32.wrap (AL.2.1+(IntKind.u32.wrap ((IntKind.u32.wrap v29)+(IntKind.u32.wrap v30))))) 16).bind fun v32=>some (.inl ((List.set AL.1 (Int.toNat AL.2.2) (IntKind.u16.wrap (IntKind.u32.wrap (AL.2.1+(IntKind.u32.wrap ((IntKind.u32.wrap v29)+(IntKind.u32.wrap v30))))))),v32,(IntKind.i64.wrap (AL.2.2+1))))) else (some (.inr (AL.1,AL.2.1)))
def oK (N:Nat) (x1:(List Int)) (xY:Int) (s16:((List Int)×Int×Int×Int)):Option (((List Int)×Int×Int×Int) ⊕ ((List Int)×Int)) :=
  bif (ai .lss s16.2.2.2 (IntKind.i64.wrap ((List.length x1:Int)+1))) then (((bif (ai .lss s16.2.2.2 (List.length x1:Int)) then ((idx x1 s16.2.2.2).bind fun v17=>some (IntKind.u64.wrap (s16.2.1+(IntKind.u64.wrap (xY * (IntKind.u64.wrap v17)))))) else (some s16.2.1)):Option Int).bind fun Ie=>(zf .u64 Ie 16).bind fun v21=>(idx s16.1 s16.2.2.2).bind fun v22=>(idx s16.1 s16.2.2.2).bind fun v23=>(zf .i64 (IntKind.i64.wrap ((IntKind.i64.wrap ((IntKind.i64.wrap v22) - (IntKind.i64.wrap (jl .and .u64 Ie 65535))))+s16.2.2.1)) 16).bind fun v24=>some (.inl ((List.set s16.1 (Int.toNat s16.2.2.2) (IntKind.u16.wrap (IntKind.i64.wrap ((IntKind.i64.wrap ((IntKind.i64.wrap v22) - (IntKind.i64.wrap (jl .and .u64 Ie 65535))))+s16.2.2.1)))),v21,v24,(IntKind.i64.wrap (s16.2.2.2+1))))) else (some (.inr (s16.1,s16.2.2.1)))
def oJ (N:Nat) (x0:(List Int)) (x1:(List Int)) (s8:(Int×Int)):Option ((Int×Int) ⊕ Int) :=
  (bif ((ai .lss s8.2 65536)&&(!(ai .gtr s8.1 65535))) then (idx x1 (IntKind.i64.wrap ((List.length x1:Int) - 2))) else some 0).bind fun v9=>(bif ((ai .lss s8.2 65536)&&(!(ai .gtr s8.1 65535))) then (AU .u64 s8.2 16) else some 0).bind fun v10=>(bif ((ai .lss s8.2 65536)&&(!(ai .gtr s8.1 65535))) then (idx x0 (IntKind.i64.wrap ((List.length x1:Int) - 2))) else some 0).bind fun v11=>bif ((ai .lss s8.2 65536)&&((ai .gtr s8.1 65535)||(ai .gtr (IntKind.u64.wrap (s8.1 * (IntKind.u64.wrap v9))) (jl .or .u64 v10 (IntKind.u64.wrap v11))))) then ((idx x1 (IntKind.i64.wrap ((List.length x1:Int) - 1))).bind fun v12=>some (.inl ((IntKind.u64.wrap (s8.1 - 1)),(IntKind.u64.wrap (s8.2+(IntKind.u64.wrap v12)))))) else (some (.inr s8.1))
def rU (N:Nat) (x0:(List Int)) (x1:(List Int)):Option ((List Int)×Int) :=
  (idx x0 (List.length x1:Int)).bind fun v1=>(AU .u64 (IntKind.u64.wrap v1) 16).bind fun v2=>(idx x0 (IntKind.i64.wrap ((List.length x1:Int) - 1))).bind fun v3=>(idx x1 (IntKind.i64.wrap ((List.length x1:Int) - 1))).bind fun v4=>(Ci .u64 (jl .or .u64 v2 (IntKind.u64.wrap v3)) (IntKind.u64.wrap v4)).bind fun v5=>(idx x1 (IntKind.i64.wrap ((List.length x1:Int) - 1))).bind fun v6=>(Ac (jl .or .u64 v2 (IntKind.u64.wrap v3)) (IntKind.u64.wrap v6)).bind fun v7=>(bQ (oJ N x0 x1) N (v5,v7)).bind fun xY=>(bQ (oK N x1 xY) N (x0,0,0,0)).bind fun o26=>bif (ai .lss o26.2 0) then ((bQ (oL N x1) N (o26.1,0,0)).bind fun J4=>(idx J4.1 (List.length x1:Int)).bind fun v36=>(idx J4.1 (List.length x1:Int)).bind fun v37=>some ((List.set J4.1 (Int.toNat (List.length x1:Int)) (IntKind.u16.wrap (v36+(IntKind.u16.wrap J4.2)))),(IntKind.u16.wrap (IntKind.u64.wrap (xY - 1))))) else (some (o26.1,(IntKind.u16.wrap xY)))
def nJ (N:Nat) (v7:Int) (v10:(List Int)) (Ir:((List Int)×(List Int))) (s20:((List Int)×Int)):Option (((List Int)×Int) ⊕ (List Int)) :=
  bif (ai .lss s20.2 (List.length v10:Int)) then ((idx Ir.2 s20.2).bind fun v21=>(idx Ir.2 (IntKind.i64.wrap (s20.2+1))).bind fun v22=>(AU .u32 (IntKind.u32.wrap v22) 16).bind fun v23=>(zf .u32 (jl .or .u32 (IntKind.u32.wrap v21) v23) v7).bind fun v24=>(idx s20.1 s20.2).bind fun v25=>some (.inl ((List.set s20.1 (Int.toNat s20.2) (IntKind.u16.wrap v24)),(IntKind.i64.wrap (s20.2+1))))) else (some (.inr s20.1))
def nI (N:Nat) (v10:(List Int)) (s12:((List Int)×(List Int)×Int)):Option (((List Int)×(List Int)×Int) ⊕ ((List Int)×(List Int))) :=
  bif (ai .geq s12.2.2 0) then ((ER s12.2.1 s12.2.2 (IntKind.i64.wrap ((IntKind.i64.wrap (s12.2.2+(List.length v10:Int)))+1))).bind fun v13=>(rU N (List.take (Int.toNat (IntKind.i64.wrap ((IntKind.i64.wrap (s12.2.2+(List.length v10:Int)))+1)) - Int.toNat s12.2.2) (List.drop (Int.toNat s12.2.2) s12.2.1)) v10).bind fun v14=>(idx s12.1 s12.2.2).bind fun v15=>some (.inl ((List.set s12.1 (Int.toNat s12.2.2) v14.2),(List.take (Int.toNat s12.2.2) s12.2.1 ++ v14.1 ++ List.drop ((Int.toNat s12.2.2)+(Int.toNat (IntKind.i64.wrap ((IntKind.i64.wrap (s12.2.2+(List.length v10:Int)))+1)) - Int.toNat s12.2.2)) s12.2.1),(IntKind.i64.wrap (s12.2.2 - 1))))) else (some (.inr (s12.1,s12.2.1)))
def lu (N:Nat) (x0:(List Int)) (x1:(List Int)):Option ((List Int)×(List Int)) :=
  (mg N x0 x1).bind fun v1=>bif (ai .lss v1 0) then ((dI N x0).bind fun v2=>some ([],v2)) else (bif (ai .eql (List.length x1:Int) 1) then ((idx x1 0).bind fun v3=>(rP N x0 v3).bind fun v4=>(dL N [v4.2]).bind fun v5=>some (v4.1,v5)) else ((idx x1 (IntKind.i64.wrap ((List.length x1:Int) - 1))).bind fun v6=>(kP N v6).bind fun v7=>(jo N x0 v7).bind fun v8=>(jo N x1 v7).bind fun v9=>(ER v9 0 (List.length x1:Int)).bind fun v10=>(mk 0 (IntKind.i64.wrap ((List.length v8:Int) - (List.length v10:Int))) (IntKind.i64.wrap ((List.length v8:Int) - (List.length v10:Int)))).bind fun v11=>(bQ (nI N v10) N (v11,v8,(IntKind.i64.wrap ((IntKind.i64.wrap ((List.length v8:Int) - (List.length v10:Int))) - 1)))).bind fun Ir=>(mk 0 (List.length v10:Int) (List.length v10:Int)).bind fun v19=>(bQ (nJ N v7 v10 Ir) N (v19,0)).bind fun o27=>(dL N Ir.1).bind fun v29=>(dL N o27).bind fun v30=>some (v29,v30)))
def nM (N:Nat) (s4:(Int×Int)):Option ((Int×Int) ⊕ Int) :=
  bif (ai .gtr s4.2 0) then ((Ac s4.1 s4.2).bind fun v5=>some (.inl (s4.2,v5))) else (some (.inr s4.1))
def nK (N:Nat) (s1:((List Int)×(List Int))):Option (((List Int)×(List Int)) ⊕ ((List Int) ⊕ (List Int))) :=
  bif (ai .gtr (List.length s1.2:Int) 0) then ((qy N s1.1).bind fun v2=>(qy N s1.2).bind fun v3=>bif (v2.2&&v3.2) then ((bQ (nM N) N (v2.1,v3.1)).bind fun o7=>(kL N o7).bind fun v9=>some (.inr (Sum.inr v9))) else ((lu N s1.1 s1.2).bind fun v11=>some (.inl (s1.2,v11.2)))) else (some (.inr (Sum.inl s1.1)))
def qQ (N:Nat) (x0:(List Int)) (x1:(List Int)):Option ((List Int)) :=
  (bQ (nK N) N (x0,x1)).bind fun xY=>Sum.elim (fun l16=>some l16) (fun r17=>some r17) xY
def ja (N:Nat) (x0:dO) (x1:dO):Option (eu) :=
  (dL N x0.Limbs).bind fun v1=>(dL N x1.Limbs).bind fun v2=>(qQ N v1 v2).bind fun v3=>(bif (!(ai .neq (List.length v3:Int) 1)) then (idx v3 0) else some 0).bind fun v4=>bif ((ai .neq (List.length v3:Int) 1)||(ai .neq v4 1)) then ((lu N v1 v3).bind fun v5=>(lu N v2 v3).bind fun v6=>(dY N (!(x0.Neg == x1.Neg)) v5.1).bind fun v7=>(dY N false v6.1).bind fun v8=>some (⟨v7,v8⟩:eu)) else ((dY N (!(x0.Neg == x1.Neg)) v1).bind fun v9=>(dY N false v2).bind fun v10=>some (⟨v9,v10⟩:eu))
def rV (N:Nat) (x0:Int) (x1:Int):Option (eu×Int) :=
  bif (ai .eql x1 0) then (some ((⟨(⟨false,[]⟩:dO),(⟨false,[]⟩:dO)⟩:eu),9)) else ((tX N x0).bind fun v1=>(tX N x1).bind fun v2=>(ja N v1 v2).bind fun v3=>some (v3,0))
def nN (N:Nat) (x0:Int) (x1:Int):Option (eu) :=
  (rV N x0 x1).bind fun v1=>some v1.1
def mP (N:Nat) (x0:(List iZ)) (s2:((List eu)×Int)):Option (((List eu)×Int) ⊕ (List eu)) :=
  bif (ai .lss s2.2 (List.length x0:Int)) then ((idx x0 s2.2).bind fun v3=>(nN N v3.yC v3.uf).bind fun v4=>(app s2.1 [v4]).bind fun v5=>some (.inl (v5,(IntKind.i64.wrap (s2.2+1))))) else (some (.inr s2.1))
def qc (N:Nat) (x0:(List iZ)):Option ((List eu)×Int) :=
  (lM N x0).bind fun v1=>bif (ai .neq v1 0) then (some ([],v1)) else ((bQ (mP N x0) N ([],0)).bind fun o7=>some (o7,0))
def qA (N:Nat) (x0:dO):Option (Int) :=
  (dL N x0.Limbs).bind fun v1=>bif (ai .eql (List.length v1:Int) 0) then (some 0) else (bif x0.Neg then (some (-1)) else (some 1))
def nO (N:Nat) (x0:eu):Option (Bool) :=
  (qA N x0.Num).bind fun v1=>some (ai .eql v1 0)
def jG (N:Nat) (x0:eu):Option (dO) :=
  (qA N x0.JE).bind fun v1=>bif (ai .eql v1 0) then (some (⟨false,[1]⟩:dO)) else (some x0.JE)
def nP (N:Nat) (x0:eu):Option (eu) :=
  (jG N x0).bind fun v1=>(ja N x0.Num v1).bind fun v2=>some v2
def oC (N:Nat) (x1:(List Int)) (s2:((List Int)×Int)) (v3:Int) (s4:((List Int)×Int×Int)):Option (((List Int)×Int×Int) ⊕ ((List Int)×Int)) :=
  bif (ai .lss s4.2.2 (List.length x1:Int)) then ((idx x1 s4.2.2).bind fun v5=>(idx s4.1 (IntKind.i64.wrap (s2.2+s4.2.2))).bind fun v6=>(idx s4.1 (IntKind.i64.wrap (s2.2+s4.2.2))).bind fun v7=>(zf .u32 (IntKind.u32.wrap (s4.2.1+(IntKind.u32.wrap ((IntKind.u32.wrap ((IntKind.u32.wrap v3) * (IntKind.u32.wrap v5)))+(IntKind.u32.wrap v6))))) 16).bind fun v8=>some (.inl ((List.set s4.1 (Int.toNat (IntKind.i64.wrap (s2.2+s4.2.2))) (IntKind.u16.wrap (IntKind.u32.wrap (s4.2.1+(IntKind.u32.wrap ((IntKind.u32.wrap ((IntKind.u32.wrap v3) * (IntKind.u32.wrap v5)))+(IntKind.u32.wrap v6))))))),v8,(IntKind.i64.wrap (s4.2.2+1))))) else (some (.inr (s4.1,s4.2.1)))
def oz (N:Nat) (x0:(List Int)) (x1:(List Int)) (s2:((List Int)×Int)):Option (((List Int)×Int) ⊕ (List Int)) :=
  bif (ai .lss s2.2 (List.length x0:Int)) then ((idx x0 s2.2).bind fun v3=>(bQ (oC N x1 s2 v3) N (s2.1,0,0)).bind fun FN=>(idx FN.1 (IntKind.i64.wrap (s2.2+(List.length x1:Int)))).bind fun v12=>some (.inl ((List.set FN.1 (Int.toNat (IntKind.i64.wrap (s2.2+(List.length x1:Int)))) (IntKind.u16.wrap FN.2)),(IntKind.i64.wrap (s2.2+1))))) else (some (.inr s2.1))
def rO (N:Nat) (x0:(List Int)) (x1:(List Int)):Option ((List Int)) :=
  (mk 0 (IntKind.i64.wrap ((List.length x0:Int)+(List.length x1:Int))) (IntKind.i64.wrap ((List.length x0:Int)+(List.length x1:Int)))).bind fun v1=>(bQ (oz N x0 x1) N (v1,0)).bind fun o15=>(dL N o15).bind fun v17=>some v17
def kZ (N:Nat) (x0:dO) (x1:dO):Option (dO) :=
  (dL N x0.Limbs).bind fun v1=>(dL N x1.Limbs).bind fun v2=>(rO N v1 v2).bind fun v3=>(dY N (!(x0.Neg == x1.Neg)) v3).bind fun v4=>some v4
def pV (N:Nat) (o2:((List Int)×(List Int))) (s5:((List Int)×Int×Int)):Option (((List Int)×Int×Int) ⊕ ((List Int)×Int)) :=
  bif (ai .lss s5.2.2 (List.length o2.1:Int)) then ((idx o2.1 s5.2.2).bind fun v6=>((bif (ai .lss s5.2.2 (List.length o2.2:Int)) then ((idx o2.2 s5.2.2).bind fun v7=>some (IntKind.u32.wrap ((IntKind.u32.wrap (s5.2.1+(IntKind.u32.wrap v6)))+(IntKind.u32.wrap v7)))) else (some (IntKind.u32.wrap (s5.2.1+(IntKind.u32.wrap v6))))):Option Int).bind fun o9=>(app s5.1 [(IntKind.u16.wrap o9)]).bind fun v11=>(zf .u32 o9 16).bind fun v12=>some (.inl (v11,v12,(IntKind.i64.wrap (s5.2.2+1))))) else (some (.inr (s5.1,s5.2.1)))
def tC (N:Nat) (x0:(List Int)) (x1:(List Int)):Option ((List Int)) :=
  ((bif (ai .lss (List.length x0:Int) (List.length x1:Int)) then (some (x1,x0)) else (some (x0,x1))):Option ((List Int)×(List Int))).bind fun o2=>(mk 0 0 (IntKind.i64.wrap ((List.length o2.1:Int)+1))).bind fun v4=>(bQ (pV N o2) N (v4,0,0)).bind fun xY=>(app xY.1 [(IntKind.u16.wrap xY.2)]).bind fun v16=>(dL N v16).bind fun v17=>some v17
def oD (N:Nat) (x0:(List Int)) (x1:(List Int)) (s2:((List Int)×Int×Int)):Option (((List Int)×Int×Int) ⊕ (List Int)) :=
  bif (ai .lss s2.2.2 (List.length x0:Int)) then ((idx x0 s2.2.2).bind fun v3=>((bif (ai .lss s2.2.2 (List.length x1:Int)) then ((idx x1 s2.2.2).bind fun v4=>some (IntKind.u32.wrap (s2.2.1+(IntKind.u32.wrap v4)))) else (some s2.2.1)):Option Int).bind fun o6=>bif (ai .lss (IntKind.u32.wrap v3) o6) then ((AU .u32 1 16).bind fun v8=>(idx s2.1 s2.2.2).bind fun v9=>some (.inl ((List.set s2.1 (Int.toNat s2.2.2) (IntKind.u16.wrap (IntKind.u32.wrap ((IntKind.u32.wrap ((IntKind.u32.wrap v3)+v8)) - o6)))),1,(IntKind.i64.wrap (s2.2.2+1))))) else ((AU .u32 0 16).bind fun v10=>(idx s2.1 s2.2.2).bind fun v11=>some (.inl ((List.set s2.1 (Int.toNat s2.2.2) (IntKind.u16.wrap (IntKind.u32.wrap ((IntKind.u32.wrap ((IntKind.u32.wrap v3)+v10)) - o6)))),0,(IntKind.i64.wrap (s2.2.2+1)))))) else (some (.inr s2.1))
def oQ (N:Nat) (x0:(List Int)) (x1:(List Int)):Option ((List Int)) :=
  (mk 0 (List.length x0:Int) (List.length x0:Int)).bind fun v1=>(bQ (oD N x0 x1) N (v1,0,0)).bind fun xY=>(dL N xY).bind fun v16=>some v16
def uS (N:Nat) (x0:dO) (x1:dO):Option (dO) :=
  (dL N x0.Limbs).bind fun v1=>(dL N x1.Limbs).bind fun v2=>bif (x0.Neg == x1.Neg) then ((tC N v1 v2).bind fun v3=>(dY N x0.Neg v3).bind fun v4=>some v4) else ((mg N v1 v2).bind fun v5=>bif (ai .geq v5 0) then ((oQ N v1 v2).bind fun v6=>(dY N x0.Neg v6).bind fun v7=>some v7) else ((oQ N v2 v1).bind fun v8=>(dY N x1.Neg v8).bind fun v9=>some v9))
def qL (N:Nat) (x0:eu) (x1:eu):Option (eu) :=
  (nO N x0).bind fun v1=>bif v1 then ((nP N x1).bind fun v2=>some v2) else ((nO N x1).bind fun v3=>bif v3 then ((nP N x0).bind fun v4=>some v4) else ((jG N x0).bind fun v5=>(jG N x1).bind fun v6=>(kZ N x0.Num v6).bind fun v7=>(kZ N x1.Num v5).bind fun v8=>(uS N v7 v8).bind fun v9=>(kZ N v5 v6).bind fun v10=>(ja N v9 v10).bind fun v11=>some v11))
def qM (N:Nat) (x0:eu) (x1:eu):Option (eu) :=
  (kZ N x0.Num x1.Num).bind fun v1=>(jG N x0).bind fun v2=>(jG N x1).bind fun v3=>(kZ N v2 v3).bind fun v4=>(ja N v1 v4).bind fun v5=>some v5
def jU (N:Nat) (v2:eu) (s3:(List eu)) (s4:((List eu)×Int)):Option (((List eu)×Int) ⊕ (List eu)) :=
  bif (ai .lss s4.2 (IntKind.i64.wrap ((List.length s3:Int) - 1))) then ((idx s4.1 s4.2).bind fun v5=>(idx s4.1 (IntKind.i64.wrap (s4.2+1))).bind fun v6=>(qL N v5 v6).bind fun v7=>(qM N v2 v7).bind fun v8=>(idx s4.1 s4.2).bind fun v9=>some (.inl ((List.set s4.1 (Int.toNat s4.2) v8),(IntKind.i64.wrap (s4.2+1))))) else (some (.inr s4.1))
def jT (N:Nat) (v2:eu) (s3:(List eu)):Option ((List eu) ⊕ (List eu)) :=
  bif (ai .gtr (List.length s3:Int) 1) then ((bQ (jU N v2 s3) N (s3,0)).bind fun Hr=>(bif decide (0≤(IntKind.i64.wrap ((List.length Hr:Int) - 1)))&&decide ((IntKind.i64.wrap ((List.length Hr:Int) - 1))≤(List.length Hr:Int)) then some (List.take (Int.toNat (IntKind.i64.wrap ((List.length Hr:Int) - 1))) Hr) else none).bind fun v13=>some (.inl v13)) else (some (.inr s3))
def lg (N:Nat) (x0:(List iZ)):Option (eu×Int) :=
  (qc N x0).bind fun v1=>bif (ai .neq v1.2 0) then (some ((⟨(⟨false,[]⟩:dO),(⟨false,[]⟩:dO)⟩:eu),v1.2)) else ((nN N 1 2).bind fun v2=>(bQ (jT N v2) N v1.1).bind fun o16=>(idx o16 0).bind fun v18=>some (v18,0))
def kK (N:Nat) (x0:Int):Option (Bool) :=
  some (((ai .geq x0 97)&&(ai .leq x0 122))||((ai .geq x0 65)&&(ai .leq x0 90)))
def jV (N:Nat) (x0:Str) (s3:Int):Option (Int ⊕ (Unit ⊕ Bool)) :=
  bif (ai .lss s3 (List.length x0:Int)) then ((idx x0 s3).bind fun v4=>(kK N ((UInt8.toNat v4:Nat):Int)).bind fun v5=>bif (((!v5)&&(ai .neq ((UInt8.toNat v4:Nat):Int) 45))&&((ai .lss ((UInt8.toNat v4:Nat):Int) 48)||(ai .gtr ((UInt8.toNat v4:Nat):Int) 57))) then (some (.inr (Sum.inr false))) else (some (.inl (IntKind.i64.wrap (s3+1))))) else (some (.inr (Sum.inl ())))
def lW (N:Nat) (x0:Str):Option (Bool) :=
  (bif (!((ai .lss (List.length x0:Int) 1)||(ai .gtr (List.length x0:Int) 12))) then (idx x0 0) else some 0).bind fun v1=>(bif (!((ai .lss (List.length x0:Int) 1)||(ai .gtr (List.length x0:Int) 12))) then (kK N ((UInt8.toNat v1:Nat):Int)) else some false).bind fun v2=>bif (((ai .lss (List.length x0:Int) 1)||(ai .gtr (List.length x0:Int) 12))||(!v2)) then (some false) else ((bQ (jV N x0) N 0).bind fun o8=>Sum.elim (fun l10=>some true) (fun r11=>some r11) o8)
def iT (N:Nat) (x0:GPanel):Option (Int) :=
  (lW N x0.Name).bind fun v1=>bif (!v1) then (some 4) else ((bif (!((ai .lss x0.Rows 1)||(ai .lss x0.dX 1))) then (iD N 100 20000 [x0.ig]) else some false).bind fun v2=>bif (((ai .lss x0.Rows 1)||(ai .lss x0.dX 1))||(!v2)) then (some 2) else (bif (((ai .gtr x0.Rows 400)||(ai .gtr x0.dX 400))||(ai .gtr (IntKind.i64.wrap (x0.Rows * x0.dX)) 400)) then (some 8) else (bif (ai .neq (List.length x0.Readings:Int) (IntKind.i64.wrap (x0.Rows * x0.dX))) then (some 11) else ((iD N 0 20000 x0.Readings).bind fun v3=>bif (!v3) then (some 2) else (some 0)))))
def jd (N:Nat) (x0:GRule):Option (Int) :=
  bif (((ai .lss x0.dn 0)||(ai .gtr x0.dn x0.lX))||(ai .gtr x0.lX 1000)) then (some 2) else (some 0)
def oU (N:Nat) (x0:GPanel) (x1:Int):Option (Int) :=
  bif (ai .eql x1 0) then (some 0) else (some (max (IntKind.i64.wrap (x0.ig - x1)) 0))
def lm (N:Nat) (x0:GPanel) (x1:GRule) (x2:Int):Option (Int) :=
  (oU N x0 x2).bind fun v1=>bif (ai .eql x2 0) then (some 0) else (bif (ai .geq (IntKind.i64.wrap (1000 * v1)) (IntKind.i64.wrap (x1.lX * x0.ig))) then (some 3) else (bif (ai .geq (IntKind.i64.wrap (1000 * v1)) (IntKind.i64.wrap (x1.dn * x0.ig))) then (some 2) else (some 1)))
def iM (N:Nat) (x0:GPanel) (x1:GRule) (s3:((List Int)×Int)):Option (((List Int)×Int) ⊕ (List Int)) :=
  bif (ai .lss s3.2 (List.length x0.Readings:Int)) then ((idx x0.Readings s3.2).bind fun v4=>(lm N x0 x1 v4).bind fun v5=>(app s3.1 [v5]).bind fun v6=>some (.inl (v6,(IntKind.i64.wrap (s3.2+1))))) else (some (.inr s3.1))
def iK (N:Nat) (x0:GPanel) (x1:GRule):Option ((List Int)×Int) :=
  (iT N x0).bind fun v1=>bif (ai .neq v1 0) then (some ([],v1)) else ((jd N x1).bind fun v2=>bif (ai .neq v2 0) then (some ([],v2)) else ((bQ (iM N x0 x1) N ([],0)).bind fun o8=>some (o8,0)))
def pW (N:Nat) (s1:(Int×(List Int))):Option ((Int×(List Int)) ⊕ (List Int)) :=
  bif (ai .gtr s1.1 0) then ((app s1.2 [(IntKind.u16.wrap (jl .and .u64 s1.1 65535))]).bind fun v2=>(zf .u64 s1.1 16).bind fun v3=>some (.inl (v3,v2))) else (some (.inr s1.2))
def qw (N:Nat) (x0:Int):Option ((List Int)) :=
  (bQ (pW N) N (x0,[])).bind fun o5=>some o5
def xu (N:Nat) (x0:Int):Option (dO) :=
  bif (ai .lss x0 0) then ((qw N (IntKind.u64.wrap ((IntKind.u64.wrap (IntKind.i64.wrap (0 - (IntKind.i64.wrap (x0+1)))))+1))).bind fun v1=>some (⟨true,v1⟩:dO)) else ((qw N (IntKind.u64.wrap x0)).bind fun v2=>some (⟨false,v2⟩:dO))
def zL (N:Nat) (x0:Int):Option (eu) :=
  (xu N x0).bind fun v1=>(xu N 1).bind fun v2=>some (⟨v1,v2⟩:eu)
def ny (N:Nat) (x0:dO) (x1:dO) (s1:Int):Option (Int ⊕ (Unit ⊕ Bool)) :=
  bif (ai .lss s1 (List.length x0.Limbs:Int)) then ((idx x0.Limbs s1).bind fun v2=>(idx x1.Limbs s1).bind fun v3=>bif (ai .neq v2 v3) then (some (.inr (Sum.inr false))) else (some (.inl (IntKind.i64.wrap (s1+1))))) else (some (.inr (Sum.inl ())))
def ni (N:Nat) (x0:dO) (x1:dO):Option (Bool) :=
  bif ((!(x0.Neg == x1.Neg))||(ai .neq (List.length x0.Limbs:Int) (List.length x1.Limbs:Int))) then (some false) else ((bQ (ny N x0 x1) N 0).bind fun o6=>Sum.elim (fun l8=>some true) (fun r9=>some r9) o6)
def qO (N:Nat) (x0:eu) (x1:eu):Option (Bool) :=
  (ni N x0.Num x1.Num).bind fun v1=>(bif v1 then (ni N x0.JE x1.JE) else some false).bind fun v2=>some (v1&&v2)
def qP (N:Nat) (x0:(List Int)) (x1:(List Int)) (s1:Int):Option (Int ⊕ (Unit ⊕ Bool)) :=
  bif (ai .lss s1 (List.length x0:Int)) then ((idx x0 s1).bind fun v2=>(idx x1 s1).bind fun v3=>bif (ai .neq v2 v3) then (some (.inr (Sum.inr false))) else (some (.inl (IntKind.i64.wrap (s1+1))))) else (some (.inr (Sum.inl ())))
def uU (N:Nat) (x0:(List Int)) (x1:(List Int)):Option (Bool) :=
  bif (ai .neq (List.length x0:Int) (List.length x1:Int)) then (some false) else ((bQ (qP N x0 x1) N 0).bind fun o6=>Sum.elim (fun l8=>some true) (fun r9=>some r9) o6)
def oV (N:Nat):Option (Bool) :=
  (lg N [(⟨0,100,1000,false⟩:iZ),(⟨200,125,1000,true⟩:iZ),(⟨400,100,1000,false⟩:iZ)]).bind fun v1=>(iK N (⟨([80]:Str),1,4,1000,[950,800,0,700]⟩:GPanel) (⟨150,250⟩:GRule)).bind fun v2=>(bif (ai .eql v1.2 0) then (zL N 9) else some (⟨(⟨false,[]⟩:dO),(⟨false,[]⟩:dO)⟩:eu)).bind fun v3=>(bif (ai .eql v1.2 0) then (qO N v1.1 v3) else some false).bind fun v4=>(bif (((ai .eql v1.2 0)&&v4)&&(ai .eql v2.2 0)) then (uU N v2.1 [1,2,0,3]) else some false).bind fun v5=>some ((((ai .eql v1.2 0)&&v4)&&(ai .eql v2.2 0))&&v5)
def qx (N:Nat) (x0:GPanel):Option (Bool) :=
  some ((ai .leq (List.length x0.Readings:Int) 410)&&(ai .leq (List.length x0.Name:Int) 50))
def oG (N:Nat) (x0:Str) (s1:Int):Option (Int ⊕ (Unit ⊕ Bool)) :=
  bif (ai .lss s1 (List.length x0:Int)) then ((idx x0 s1).bind fun v2=>bif ((!(((ai .geq ((UInt8.toNat v2:Nat):Int) 97)&&(ai .leq ((UInt8.toNat v2:Nat):Int) 122))||((ai .geq ((UInt8.toNat v2:Nat):Int) 65)&&(ai .leq ((UInt8.toNat v2:Nat):Int) 90))))&&((ai .eql s1 0)||((ai .neq ((UInt8.toNat v2:Nat):Int) 45)&&((ai .lss ((UInt8.toNat v2:Nat):Int) 48)||(ai .gtr ((UInt8.toNat v2:Nat):Int) 57))))) then (some (.inr (Sum.inr false))) else (some (.inl (IntKind.i64.wrap (s1+1))))) else (some (.inr (Sum.inl ())))
def oW (N:Nat) (x0:Str):Option (Bool) :=
  bif ((ai .lss (List.length x0:Int) 1)||(ai .gtr (List.length x0:Int) 12)) then (some false) else ((bQ (oG N x0) N 0).bind fun o5=>Sum.elim (fun l7=>some true) (fun r8=>some r8) o5)
def lq (N:Nat) (x0:Int) (x1:Int) (x2:Int):Option (Bool) :=
  some ((ai .geq x0 x1)&&(ai .leq x0 x2))
def gB (N:Nat) (x0:GPanel) (s3:Int):Option (Int ⊕ (Unit ⊕ Int)) :=
  bif (ai .lss s3 (List.length x0.Readings:Int)) then ((idx x0.Readings s3).bind fun v4=>(lq N v4 0 20000).bind fun v5=>bif (!v5) then (some (.inr (Sum.inr 2))) else (some (.inl (IntKind.i64.wrap (s3+1))))) else (some (.inr (Sum.inl ())))
def je (N:Nat) (x0:GPanel):Option (Int) :=
  (oW N x0.Name).bind fun v1=>bif (!v1) then (some 4) else ((bif (!((ai .lss x0.Rows 1)||(ai .lss x0.dX 1))) then (lq N x0.ig 100 20000) else some false).bind fun v2=>bif (((ai .lss x0.Rows 1)||(ai .lss x0.dX 1))||(!v2)) then (some 2) else (bif (((ai .gtr x0.Rows 400)||(ai .gtr x0.dX 400))||(ai .gtr (IntKind.i64.wrap (x0.Rows * x0.dX)) 400)) then (some 8) else (bif (ai .neq (List.length x0.Readings:Int) (IntKind.i64.wrap (x0.Rows * x0.dX))) then (some 11) else ((bQ (gB N x0) N 0).bind fun o8=>Sum.elim (fun l10=>some 0) (fun r11=>some r11) o8))))
def jv (N:Nat) (x0:GRule):Option (Int) :=
  bif (((ai .lss x0.dn 0)||(ai .gtr x0.dn x0.lX))||(ai .gtr x0.lX 1000)) then (some 2) else (some 0)
def jf (N:Nat) (x0:GPanel) (x1:GRule):Option (Int) :=
  (je N x0).bind fun v1=>bif (ai .neq v1 0) then (some v1) else ((jv N x1).bind fun v2=>some v2)
def iP (N:Nat) (x0:aA) (x1:aA):Option (aA) :=
  some (⟨(min x0.X x1.X),(min x0.Y x1.Y),(IntKind.i64.wrap ((max (IntKind.i64.wrap (x0.X+x0.W)) (IntKind.i64.wrap (x1.X+x1.W))) - (min x0.X x1.X))),(IntKind.i64.wrap ((max (IntKind.i64.wrap (x0.Y+x0.H)) (IntKind.i64.wrap (x1.Y+x1.H))) - (min x0.Y x1.Y)))⟩:aA)
def dV (N:Nat) (x0:GPanel) (x1:(List Int)) (v10:Int) (v12:Int) (s14:((List Bool)×(List Int)×Int)):Option (((List Bool)×(List Int)×Int) ⊕ ((List Bool)×(List Int))) :=
  bif (ai .lss s14.2.2 4) then ((idx [[1,0],[(-1),0],[0,1],[0,(-1)]] s14.2.2).bind fun v15=>(idx v15 0).bind fun v16=>(idx v15 1).bind fun v17=>bif ((((ai .lss (IntKind.i64.wrap (v10+v16)) 0)||(ai .geq (IntKind.i64.wrap (v10+v16)) x0.dX))||(ai .lss (IntKind.i64.wrap (v12+v17)) 0))||(ai .geq (IntKind.i64.wrap (v12+v17)) x0.Rows)) then (some (.inl (s14.1,s14.2.1,(IntKind.i64.wrap (s14.2.2+1))))) else ((idx x1 (IntKind.i64.wrap ((IntKind.i64.wrap ((IntKind.i64.wrap (v12+v17)) * x0.dX))+(IntKind.i64.wrap (v10+v16))))).bind fun v18=>(bif (ai .eql v18 3) then (idx s14.1 (IntKind.i64.wrap ((IntKind.i64.wrap ((IntKind.i64.wrap (v12+v17)) * x0.dX))+(IntKind.i64.wrap (v10+v16))))) else some false).bind fun v19=>bif ((ai .eql v18 3)&&(!v19)) then ((idx s14.1 (IntKind.i64.wrap ((IntKind.i64.wrap ((IntKind.i64.wrap (v12+v17)) * x0.dX))+(IntKind.i64.wrap (v10+v16))))).bind fun v20=>(app s14.2.1 [(IntKind.i64.wrap ((IntKind.i64.wrap ((IntKind.i64.wrap (v12+v17)) * x0.dX))+(IntKind.i64.wrap (v10+v16))))]).bind fun v21=>some (.inl ((List.set s14.1 (Int.toNat (IntKind.i64.wrap ((IntKind.i64.wrap ((IntKind.i64.wrap (v12+v17)) * x0.dX))+(IntKind.i64.wrap (v10+v16))))) true),v21,(IntKind.i64.wrap (s14.2.2+1))))) else (some (.inl (s14.1,s14.2.1,(IntKind.i64.wrap (s14.2.2+1))))))) else (some (.inr (s14.1,s14.2.1)))
def dA (N:Nat) (x0:GPanel) (x1:(List Int)) (s8:((List Bool)×aA×(List Int))):Option (((List Bool)×aA×(List Int)) ⊕ ((List Bool)×aA)) :=
  bif (ai .gtr (List.length s8.2.2:Int) 0) then ((idx s8.2.2 0).bind fun v9=>(Ac v9 x0.dX).bind fun v10=>(idx s8.2.2 0).bind fun v11=>(Ci .i64 v11 x0.dX).bind fun v12=>(iP N s8.2.1 (⟨v10,v12,1,1⟩:aA)).bind fun v13=>(bQ (dV N x0 x1 v10 v12) N (s8.1,s8.2.2,0)).bind fun o25=>(ER o25.2 1 (List.length o25.2:Int)).bind fun v27=>some (.inl (o25.1,v13,v27))) else (some (.inr (s8.1,s8.2.1)))
def gQ (N:Nat) (x0:GPanel) (x1:(List Int)) (s2:((List aA)×(List Bool)×Int)):Option (((List aA)×(List Bool)×Int) ⊕ (List aA)) :=
  bif (ai .lss s2.2.2 (List.length x1:Int)) then ((idx x1 s2.2.2).bind fun v3=>(bif (!(ai .neq v3 3)) then (idx s2.2.1 s2.2.2) else some false).bind fun v4=>bif ((ai .neq v3 3)||v4) then (some (.inl (s2.1,s2.2.1,(IntKind.i64.wrap (s2.2.2+1))))) else ((idx s2.2.1 s2.2.2).bind fun v5=>(Ac s2.2.2 x0.dX).bind fun v6=>(Ci .i64 s2.2.2 x0.dX).bind fun v7=>(bQ (dA N x0 x1) N ((List.set s2.2.1 (Int.toNat s2.2.2) true),(⟨v6,v7,1,1⟩:aA),[s2.2.2])).bind fun o30=>(app s2.1 [o30.2]).bind fun v32=>some (.inl (v32,o30.1,(IntKind.i64.wrap (s2.2.2+1)))))) else (some (.inr s2.1))
def kH (N:Nat) (x0:GPanel) (x1:(List Int)):Option ((List aA)) :=
  (mk false (List.length x1:Int) (List.length x1:Int)).bind fun v1=>(bQ (gQ N x0 x1) N ([],v1,0)).bind fun o36=>some o36
def gJ (N:Nat) (x0:(List aA)) (x1:(aA→aA→Option Int)):Option (List aA):=Bl x1 x0
def jR (N:Nat) (x0:Int):Option (Bool) :=
  some (ai .neq x0 x0)
def gV (N:Nat) (x0:Int) (x1:Int):Option (Int) :=
  (jR N x0).bind fun v1=>(jR N x1).bind fun v2=>bif v1 then (bif v2 then (some 0) else (some (-1))) else (bif v2 then (some 1) else (bif (ai .lss x0 x1) then (some (-1)) else (bif (ai .gtr x0 x1) then (some 1) else (some 0))))
def iw (N:Nat) (x0:(List Int)) (s1:Int):Option (Int ⊕ (Unit ⊕ Int)) :=
  bif (ai .lss s1 (List.length x0:Int)) then ((idx x0 s1).bind fun v2=>bif (ai .neq v2 0) then (some (.inr (Sum.inr v2))) else (some (.inl (IntKind.i64.wrap (s1+1))))) else (some (.inr (Sum.inl ())))
def pJ (N:Nat) (x0:(List Int)):Option (Int) :=
  (bQ (iw N x0) N 0).bind fun o5=>Sum.elim (fun l7=>some 0) (fun r8=>some r8) o5
def fG (N:Nat) (x0:aA) (x1:aA):Option (Int) :=
  (gV N x0.Y x1.Y).bind fun v1=>(gV N x0.X x1.X).bind fun v2=>(gV N x0.H x1.H).bind fun v3=>(gV N x0.W x1.W).bind fun v4=>(pJ N [v1,v2,v3,v4]).bind fun v5=>some v5
def iY (N:Nat) (x0:(List aA)):Option ((List aA)) :=
  (gJ N x0 (fun y0 y1=>fG N y0 y1)).bind fun v1=>some v1
def lV (N:Nat) (x0:aA) (x1:aA):Option (Bool) :=
  some ((((ai .lss x0.X (IntKind.i64.wrap (x1.X+x1.W)))&&(ai .lss x1.X (IntKind.i64.wrap (x0.X+x0.W))))&&(ai .lss x0.Y (IntKind.i64.wrap (x1.Y+x1.H))))&&(ai .lss x1.Y (IntKind.i64.wrap (x0.Y+x0.H))))
def dD (N:Nat) (x0:(List aA)) (x1:Int) (x2:Int):Option ((List aA)) :=
  (Gy x1 x2 (List.length x0:Int) (List.length x0:Int)).bind fun v1=>bif (ai .eql x1 x2) then (some x0) else ((ER x0 0 x1).bind fun v2=>(ER x0 x2 (List.length x0:Int)).bind fun v3=>(GH x0 (Int.toNat 0) (Int.toNat x1 - Int.toNat 0) (Int.toNat x2) (Int.toNat (List.length x0:Int) - Int.toNat x2)).bind fun v4=>(bif Nat.beq (Int.toNat (List.length v4:Int)) (List.length v4)&&Nat.ble (Int.toNat (List.length v4:Int)) (Int.toNat (List.length x0:Int))&&Nat.ble (Int.toNat (List.length x0:Int)) (List.length x0)&&decide (0≤(List.length v4:Int))&&decide (0≤(List.length x0:Int)) then some () else none).bind fun v5=>some v4)
def iG (N:Nat) (s1:((List aA)×Int)) (s2:((List aA)×Int)):Option (((List aA)×Int) ⊕ ((List aA) ⊕ ((List aA)×Bool))) :=
  bif (ai .lss s2.2 (List.length s2.1:Int)) then ((idx s2.1 s1.2).bind fun v3=>(idx s2.1 s2.2).bind fun v4=>(lV N v3 v4).bind fun v5=>bif v5 then ((idx s2.1 s1.2).bind fun v6=>(idx s2.1 s2.2).bind fun v7=>(iP N v6 v7).bind fun v8=>(idx s2.1 s1.2).bind fun v9=>(dD N (List.set s2.1 (Int.toNat s1.2) v8) s2.2 (IntKind.i64.wrap (s2.2+1))).bind fun v10=>some (.inr (Sum.inr (v10,true)))) else (some (.inl (s2.1,(IntKind.i64.wrap (s2.2+1)))))) else (some (.inr (Sum.inl s2.1)))
def gU (N:Nat) (x0:(List aA)) (s1:((List aA)×Int)):Option (((List aA)×Int) ⊕ ((List aA) ⊕ ((List aA)×Bool))) :=
  bif (ai .lss s1.2 (List.length x0:Int)) then ((bQ (iG N s1) N (s1.1,(IntKind.i64.wrap (s1.2+1)))).bind fun o13=>Sum.elim (fun l15=>some (.inl (l15,(IntKind.i64.wrap (s1.2+1))))) (fun r16=>some (.inr (Sum.inr (r16.1,r16.2)))) o13) else (some (.inr (Sum.inl s1.1)))
def kJ (N:Nat) (x0:(List aA)):Option ((List aA)×Bool) :=
  (bQ (gU N x0) N (x0,0)).bind fun Ie=>Sum.elim (fun l21=>some (l21,false)) (fun r22=>some (r22.1,r22.2)) Ie
def bM (N:Nat) (s4:((List aA)×Bool)):Option (((List aA)×Bool) ⊕ (List aA)) :=
  bif s4.2 then ((kJ N s4.1).bind fun v5=>(iY N v5.1).bind fun v6=>some (.inl (v6,v5.2))) else (some (.inr s4.1))
def jr (N:Nat) (x0:GPanel) (x1:GRule):Option ((List aA)×Int) :=
  (iK N x0 x1).bind fun v1=>bif (ai .neq v1.2 0) then (some ([],v1.2)) else ((kH N x0 v1.1).bind fun v2=>(iY N v2).bind fun v3=>(bQ (bM N) N (v3,true)).bind fun o8=>some (o8,0))
def ku (N:Nat) (x0:Bool) (x1:Int):Option (Int) :=
  bif x0 then (some x1) else (some 0)
def l9 (N:Nat) (x0:(List Int)):Option ((List Int)) :=
  (app ([]:(List Int)) x0).bind fun v1=>some v1
def eU (N:Nat) (v4:((List Int)×Int)) (v5:((List aA)×Int)) (s7:((List Int)×Int)) (v8:Int) (v9:Int) (s10:((List Int)×Int×Int)):Option (((List Int)×Int×Int) ⊕ ((List Int)×Int)) :=
  bif (ai .lss s10.2.2 (List.length v5.1:Int)) then ((idx v5.1 s10.2.2).bind fun v11=>(bif (!(ai .lss v8 v11.X)) then (idx v5.1 s10.2.2) else some (⟨0,0,0,0⟩:aA)).bind fun v12=>(bif (!((ai .lss v8 v11.X)||(ai .lss v9 v12.Y))) then (idx v5.1 s10.2.2) else some (⟨0,0,0,0⟩:aA)).bind fun v13=>(bif (!((ai .lss v8 v11.X)||(ai .lss v9 v12.Y))) then (idx v5.1 s10.2.2) else some (⟨0,0,0,0⟩:aA)).bind fun v14=>(bif (!(((ai .lss v8 v11.X)||(ai .lss v9 v12.Y))||(ai .geq v8 (IntKind.i64.wrap (v13.X+v14.W))))) then (idx v5.1 s10.2.2) else some (⟨0,0,0,0⟩:aA)).bind fun v15=>(bif (!(((ai .lss v8 v11.X)||(ai .lss v9 v12.Y))||(ai .geq v8 (IntKind.i64.wrap (v13.X+v14.W))))) then (idx v5.1 s10.2.2) else some (⟨0,0,0,0⟩:aA)).bind fun v16=>bif ((((ai .lss v8 v11.X)||(ai .lss v9 v12.Y))||(ai .geq v8 (IntKind.i64.wrap (v13.X+v14.W))))||(ai .geq v9 (IntKind.i64.wrap (v15.Y+v16.H)))) then (some (.inl (s10.1,s10.2.1,(IntKind.i64.wrap (s10.2.2+1))))) else ((idx v4.1 s7.2).bind fun v17=>bif (ai .eql v17 3) then ((idx s10.1 s10.2.2).bind fun v18=>(idx v5.1 s10.2.2).bind fun v19=>(ku N (ai .eql v8 v19.X) 1).bind fun v20=>(idx v5.1 s10.2.2).bind fun v21=>(idx v5.1 s10.2.2).bind fun v22=>(ku N (ai .eql v8 (IntKind.i64.wrap ((IntKind.i64.wrap (v21.X+v22.W)) - 1))) 2).bind fun v23=>(idx v5.1 s10.2.2).bind fun v24=>(ku N (ai .eql v9 v24.Y) 4).bind fun v25=>(idx v5.1 s10.2.2).bind fun v26=>(idx v5.1 s10.2.2).bind fun v27=>(ku N (ai .eql v9 (IntKind.i64.wrap ((IntKind.i64.wrap (v26.Y+v27.H)) - 1))) 8).bind fun v28=>(idx s10.1 s10.2.2).bind fun v29=>some (.inl ((List.set s10.1 (Int.toNat s10.2.2) (jl .or .i64 (jl .or .i64 (jl .or .i64 (jl .or .i64 v18 v20) v23) v25) v28)),(IntKind.i64.wrap (s10.2.1+1)),(IntKind.i64.wrap (s10.2.2+1))))) else (some (.inl (s10.1,(IntKind.i64.wrap (s10.2.1+1)),(IntKind.i64.wrap (s10.2.2+1))))))) else (some (.inr (s10.1,s10.2.1)))
def eY (N:Nat) (x0:GPanel) (v5:((List aA)×Int)) (KH:(List Int)) (s43:Int):Option (Int ⊕ (Unit ⊕ Bool)) :=
  bif (ai .lss s43 (List.length v5.1:Int)) then ((idx KH s43).bind fun v44=>(bif (!(ai .neq v44 15)) then (idx v5.1 s43) else some (⟨0,0,0,0⟩:aA)).bind fun v45=>(bif (!((ai .neq v44 15)||(ai .lss v45.X 0))) then (idx v5.1 s43) else some (⟨0,0,0,0⟩:aA)).bind fun v46=>(bif (!(((ai .neq v44 15)||(ai .lss v45.X 0))||(ai .lss v46.Y 0))) then (idx v5.1 s43) else some (⟨0,0,0,0⟩:aA)).bind fun v47=>(bif (!(((ai .neq v44 15)||(ai .lss v45.X 0))||(ai .lss v46.Y 0))) then (idx v5.1 s43) else some (⟨0,0,0,0⟩:aA)).bind fun v48=>(bif (!((((ai .neq v44 15)||(ai .lss v45.X 0))||(ai .lss v46.Y 0))||(ai .gtr (IntKind.i64.wrap (v47.X+v48.W)) x0.dX))) then (idx v5.1 s43) else some (⟨0,0,0,0⟩:aA)).bind fun v49=>(bif (!((((ai .neq v44 15)||(ai .lss v45.X 0))||(ai .lss v46.Y 0))||(ai .gtr (IntKind.i64.wrap (v47.X+v48.W)) x0.dX))) then (idx v5.1 s43) else some (⟨0,0,0,0⟩:aA)).bind fun v50=>bif (((((ai .neq v44 15)||(ai .lss v45.X 0))||(ai .lss v46.Y 0))||(ai .gtr (IntKind.i64.wrap (v47.X+v48.W)) x0.dX))||(ai .gtr (IntKind.i64.wrap (v49.Y+v50.H)) x0.Rows)) then (some (.inr (Sum.inr false))) else (some (.inl (IntKind.i64.wrap (s43+1))))) else (some (.inr (Sum.inl ())))
def eP (N:Nat) (x0:GPanel) (v4:((List Int)×Int)) (v5:((List aA)×Int)) (s7:((List Int)×Int)):Option (((List Int)×Int) ⊕ ((List Int) ⊕ Bool)) :=
  bif (ai .lss s7.2 (List.length v4.1:Int)) then ((Ac s7.2 x0.dX).bind fun v8=>(Ci .i64 s7.2 x0.dX).bind fun v9=>(bQ (eU N v4 v5 s7 v8 v9) N (s7.1,0,0)).bind fun o33=>(bif (!(ai .gtr o33.2 1)) then (idx v4.1 s7.2) else some 0).bind fun v35=>bif ((ai .gtr o33.2 1)||((ai .eql v35 3)&&(ai .neq o33.2 1))) then (some (.inr (Sum.inr false))) else (some (.inl (o33.1,(IntKind.i64.wrap (s7.2+1)))))) else (some (.inr (Sum.inl s7.1)))
def jq (N:Nat) (x0:GPanel) (x1:GRule) (x2:Int):Option (Bool) :=
  (oV N).bind fun v1=>bif (!v1) then (some false) else ((qx N x0).bind fun v2=>(bif (!((!v2)||(ai .gtr (List.length x0.Readings:Int) 100))) then (jf N x0 x1) else some 0).bind fun v3=>bif (((!v2)||(ai .gtr (List.length x0.Readings:Int) 100))||(ai .neq v3 0)) then (some true) else ((iK N x0 x1).bind fun v4=>(jr N x0 x1).bind fun v5=>bif (((ai .neq v4.2 0)||(ai .neq v5.2 0))||(ai .neq (List.length v4.1:Int) (List.length x0.Readings:Int))) then (some false) else ((mk 0 (List.length v5.1:Int) (List.length v5.1:Int)).bind fun v6=>(bQ (eP N x0 v4 v5) N (v6,0)).bind fun o39=>Sum.elim (fun KH=>(bQ (eY N x0 v5 KH) N 0).bind fun o53=>Sum.elim (fun l55=>(Ac (IntKind.i64.wrap x2) (List.length v4.1:Int)).bind fun v57=>(idx x0.Readings v57).bind fun v58=>bif (ai .lss v58 2) then (some true) else ((l9 N x0.Readings).bind fun v59=>(idx v59 v57).bind fun v62=>(idx v59 v57).bind fun v63=>(iK N ({ x0 with Readings:=(List.set v59 (Int.toNat v57) (IntKind.i64.wrap (v62 - 1))) }:GPanel) x1).bind fun v64=>(bif ((ai .eql v64.2 0)&&(ai .eql (List.length v64.1:Int) (List.length v4.1:Int))) then (idx v64.1 v57) else some 0).bind fun v65=>(bif ((ai .eql v64.2 0)&&(ai .eql (List.length v64.1:Int) (List.length v4.1:Int))) then (idx v4.1 v57) else some 0).bind fun v66=>some (((ai .eql v64.2 0)&&(ai .eql (List.length v64.1:Int) (List.length v4.1:Int)))&&(ai .geq v65 v66)))) (fun r56=>some r56) o53) (fun r42=>some r42) o39)))
end
end Go.KB
