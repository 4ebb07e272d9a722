/- The functions as plain Lean functions. Printed by a program. No condition. -/
import Derived.Test.YtalkbgomndhkmaaGreatGTypes
import Derived.Test.YtalkbgomndhkmaaGreatKSos
import Derived.Test.YtalkbgomndhkmaaGreatKSg
namespace Go.KB
set_option linter.unusedVariables false
noncomputable section
def oP (N:Nat) (x0:GPermitPlan) (s10:Int):Option (Int ⊕ (Unit ⊕ Bool)) :=
  bif (aS .lss s10 (List.length x0.ai:Int)) then ((idx x0.ai s10).bind fun v11=>(bif (!(aS .gtr (List.length v11.Locks:Int) 20)) then (idx x0.ai s10) else some (⟨[],0,[],0,0,[]⟩:aA)).bind fun v12=>bif ((aS .gtr (List.length v11.Locks:Int) 20)||(aS .gtr (List.length v12.Name:Int) 40)) then (some (.inr (Sum.inr true))) else (some (.inl (IntKind.i64.wrap (s10+1))))) else (some (.inr (Sum.inl ())))
def oO (N:Nat) (x0:GPermitPlan) (s1:Int):Option (Int ⊕ (Unit ⊕ Bool)) :=
  bif (aS .lss s1 (List.length x0.bF:Int)) then ((idx x0.bF s1).bind fun v2=>(bif (!(aS .gtr (List.length v2.Next:Int) 40)) then (idx x0.bF s1) else some (⟨[],false,[]⟩:dh)).bind fun v3=>bif ((aS .gtr (List.length v2.Next:Int) 40)||(aS .gtr (List.length v3.Name:Int) 40)) then (some (.inr (Sum.inr true))) else (some (.inl (IntKind.i64.wrap (s1+1))))) else (some (.inr (Sum.inl ())))
def vH (N:Nat) (x0:GPermitPlan):Option (Bool) :=
  bif (((aS .gtr (List.length x0.bF:Int) 40)||(aS .gtr (List.length x0.cZ:Int) 40))||(aS .gtr (List.length x0.ai:Int) 30)) then (some true) else ((bW (oO N x0) N 0).bind fun o6=>Sum.elim (fun l8=>(bW (oP N x0) N 0).bind fun UH=>Sum.elim (fun l17=>some false) (fun Yz=>some Yz) UH) (fun r9=>some r9) o6)
def yN (N:Nat) (x0:Str) (s1:Int):Option (Int ⊕ (Unit ⊕ Bool)) :=
  bif (aS .lss s1 (List.length x0:Int)) then ((idx x0 s1).bind fun v2=>bif ((!(((aS .geq ((UInt8.toNat v2:Nat):Int) 97)&&(aS .leq ((UInt8.toNat v2:Nat):Int) 122))||((aS .geq ((UInt8.toNat v2:Nat):Int) 65)&&(aS .leq ((UInt8.toNat v2:Nat):Int) 90))))&&((aS .eql s1 0)||((aS .neq ((UInt8.toNat v2:Nat):Int) 45)&&((aS .lss ((UInt8.toNat v2:Nat):Int) 48)||(aS .gtr ((UInt8.toNat v2:Nat):Int) 57))))) then (some (.inr (Sum.inr false))) else (some (.inl (IntKind.i64.wrap (s1+1))))) else (some (.inr (Sum.inl ())))
def wX (N:Nat) (x0:Str):Option (Bool) :=
  bif ((aS .lss (List.length x0:Int) 1)||(aS .gtr (List.length x0:Int) 12)) then (some false) else ((bW (yN N x0) N 0).bind fun o5=>Sum.elim (fun l7=>some true) (fun r8=>some r8) o5)
def uJ (N:Nat) (x0:GPermitPlan) (x1:Str) (s1:Int):Option (Int ⊕ (Unit ⊕ Int)) :=
  bif (aS .lss s1 (List.length x0.bF:Int)) then ((idx x0.bF s1).bind fun v2=>bif (Bq .eql v2.Name x1) then (some (.inr (Sum.inr s1))) else (some (.inl (IntKind.i64.wrap (s1+1))))) else (some (.inr (Sum.inl ())))
def tK (N:Nat) (x0:GPermitPlan) (x1:Str):Option (Int) :=
  (bW (uJ N x0 x1) N 0).bind fun o5=>Sum.elim (fun l7=>some (-1)) (fun r8=>some r8) o5
def uK (N:Nat) (x0:GPermitPlan) (x1:Int) (x2:Str):Option (Bool) :=
  (tK N x0 x2).bind fun v1=>some ((aS .geq v1 0)&&(aS .lss v1 x1))
def ny (N:Nat) (x0:GPermitPlan) (s15:Int) (s16:Int):Option (Int ⊕ (Unit ⊕ Int)) :=
  (idx x0.bF s15).bind fun v17=>bif (aS .lss s16 (List.length v17.Next:Int)) then ((idx x0.bF s15).bind fun v18=>(idx v18.Next s16).bind fun v19=>(tK N x0 v19).bind fun v20=>bif (aS .lss v20 0) then (some (.inr (Sum.inr 6))) else ((idx x0.bF s15).bind fun v21=>(idx v21.Next s16).bind fun v22=>(idx x0.bF s15).bind fun v23=>bif (Bq .eql v22 v23.Name) then (some (.inr (Sum.inr 3))) else (some (.inl (IntKind.i64.wrap (s16+1)))))) else (some (.inr (Sum.inl ())))
def ni (N:Nat) (x0:GPermitPlan) (s15:Int):Option (Int ⊕ (Unit ⊕ Int)) :=
  bif (aS .lss s15 (List.length x0.bF:Int)) then ((bW (ny N x0 s15) N 0).bind fun o27=>Sum.elim (fun l29=>some (.inl (IntKind.i64.wrap (s15+1)))) (fun r30=>some (.inr (Sum.inr r30))) o27) else (some (.inr (Sum.inl ())))
def ng (N:Nat) (x0:GPermitPlan) (s1:Int):Option (Int ⊕ (Unit ⊕ Int)) :=
  bif (aS .lss s1 (List.length x0.bF:Int)) then ((idx x0.bF s1).bind fun v2=>(wX N v2.Name).bind fun v3=>bif (!v3) then (some (.inr (Sum.inr 4))) else ((idx x0.bF s1).bind fun v4=>(uK N x0 s1 v4.Name).bind fun v5=>bif v5 then (some (.inr (Sum.inr 5))) else ((idx x0.bF s1).bind fun v6=>bif (aS .gtr (List.length v6.Next:Int) 30) then (some (.inr (Sum.inr 8))) else (some (.inl (IntKind.i64.wrap (s1+1))))))) else (some (.inr (Sum.inl ())))
def qW (N:Nat) (x0:GPermitPlan):Option (Int) :=
  (bW (ng N x0) N 0).bind fun Yx=>Sum.elim (fun l13=>(bW (ni N x0) N 0).bind fun Yq=>Sum.elim (fun Ri=>some 0) (fun r36=>some r36) Yq) (fun r14=>some r14) Yx
def wK (N:Nat) (x0:Int):Option (Bool) :=
  some ((aS .geq x0 0)&&(aS .leq x0 5))
def sS (N:Nat) (x0:GPermitPlan) (x1:Str) (s1:Int):Option (Int ⊕ (Unit ⊕ Int)) :=
  bif (aS .lss s1 (List.length x0.ai:Int)) then ((idx x0.ai s1).bind fun v2=>bif (Bq .eql v2.Name x1) then (some (.inr (Sum.inr s1))) else (some (.inl (IntKind.i64.wrap (s1+1))))) else (some (.inr (Sum.inl ())))
def qJ (N:Nat) (x0:GPermitPlan) (x1:Str):Option (Int) :=
  (bW (sS N x0 x1) N 0).bind fun o5=>Sum.elim (fun l7=>some (-1)) (fun r8=>some r8) o5
def oV (N:Nat) (x0:GPermitPlan) (v29:aA) (s30:Int):Option (Int ⊕ (Unit ⊕ Int)) :=
  bif (aS .lss s30 (List.length v29.Locks:Int)) then ((idx v29.Locks s30).bind fun v31=>(qJ N x0 v31).bind fun v32=>bif (aS .lss v32 0) then (some (.inr (Sum.inr 6))) else ((idx x0.ai v32).bind fun v33=>bif ((aS .neq v33.Kind 5)||(aS .eql v29.Kind 5)) then (some (.inr (Sum.inr 3))) else (some (.inl (IntKind.i64.wrap (s30+1)))))) else (some (.inr (Sum.inl ())))
def oU (N:Nat) (x0:GPermitPlan) (Ey:Int):Option (Int ⊕ (Unit ⊕ Int)) :=
  bif (aS .lss Ey (List.length x0.ai:Int)) then ((idx x0.ai Ey).bind fun v29=>(bW (oV N x0 v29) N 0).bind fun o37=>Sum.elim (fun l39=>some (.inl (IntKind.i64.wrap (Ey+1)))) (fun r40=>some (.inr (Sum.inr r40))) o37) else (some (.inr (Sum.inl ())))
def oQ (N:Nat) (x0:GPermitPlan) (s12:Int):Option (Int ⊕ (Unit ⊕ Int)) :=
  bif (aS .lss s12 (List.length x0.ai:Int)) then ((idx x0.ai s12).bind fun v13=>(wX N v13.Name).bind fun v14=>bif (!v14) then (some (.inr (Sum.inr 4))) else ((qJ N x0 v13.Name).bind fun v15=>bif (aS .lss v15 s12) then (some (.inr (Sum.inr 5))) else ((wK N v13.Kind).bind fun v16=>bif ((((!v16)||(aS .lss v13.From 0))||(aS .geq v13.From v13.To))||(aS .gtr v13.To 1000000)) then (some (.inr (Sum.inr 2))) else ((tK N x0 v13.Space).bind fun v17=>bif (aS .lss v17 0) then (some (.inr (Sum.inr 6))) else (bif (aS .gtr (List.length v13.Locks:Int) 10) then (some (.inr (Sum.inr 8))) else (some (.inl (IntKind.i64.wrap (s12+1))))))))) else (some (.inr (Sum.inl ())))
def sV (N:Nat) (x0:GPermitPlan) (s2:Int):Option (Int ⊕ (Unit ⊕ Int)) :=
  bif (aS .lss s2 (List.length x0.cZ:Int)) then ((idx x0.cZ s2).bind fun v3=>(wK N v3.A).bind fun v4=>(bif (!(!v4)) then (wK N v3.B) else some false).bind fun v5=>bif ((((!v4)||(!v5))||(aS .lss v3.Reach 0))||(aS .gtr v3.Reach 2)) then (some (.inr (Sum.inr 2))) else (some (.inl (IntKind.i64.wrap (s2+1))))) else (some (.inr (Sum.inl ())))
def sU (N:Nat) (x0:GPermitPlan):Option (Int) :=
  bif (((aS .gtr (List.length x0.bF:Int) 30)||(aS .gtr (List.length x0.cZ:Int) 30))||(aS .gtr (List.length x0.ai:Int) 20)) then (some 8) else (bif ((aS .lss x0.dw 1)||(aS .gtr x0.dw 10000)) then (some 2) else ((qW N x0).bind fun v1=>bif (aS .neq v1 0) then (some v1) else ((bW (sV N x0) N 0).bind fun o8=>Sum.elim (fun l10=>(bW (oQ N x0) N 0).bind fun Tt=>Sum.elim (fun PD=>(bW (oU N x0) N 0).bind fun o43=>Sum.elim (fun l45=>some 0) (fun r46=>some r46) o43) (fun r27=>some r27) Tt) (fun r11=>some r11) o8)))
def xK (N:Nat) (x0:GPermitPlan):Option (Bool) :=
  (vH N x0).bind fun v1=>(bif (!v1) then (sU N x0) else some 0).bind fun v2=>some (((((!v1)&&(aS .eql v2 0))&&(aS .leq (List.length x0.bF:Int) 8))&&(aS .leq (List.length x0.ai:Int) 8))&&(aS .leq (List.length x0.cZ:Int) 12))
def BJ (N:Nat) (x0:GPermitPlan):Option (Bool) :=
  (xK N x0).bind fun v1=>some v1
def x9 (N:Nat):Option ((List bJ)) :=
  some [(⟨0,2,1⟩:bJ),(⟨3,0,1⟩:bJ),(⟨3,1,1⟩:bJ),(⟨3,2,1⟩:bJ),(⟨3,3,1⟩:bJ),(⟨4,4,0⟩:bJ)]
def vk (N:Nat) (x0:Int):Option (Bool) :=
  some (((aS .geq x0 97)&&(aS .leq x0 122))||((aS .geq x0 65)&&(aS .leq x0 90)))
def qE (N:Nat) (x0:Str) (s3:Int):Option (Int ⊕ (Unit ⊕ Bool)) :=
  bif (aS .lss s3 (List.length x0:Int)) then ((idx x0 s3).bind fun v4=>(vk N ((UInt8.toNat v4:Nat):Int)).bind fun v5=>bif (((!v5)&&(aS .neq ((UInt8.toNat v4:Nat):Int) 45))&&((aS .lss ((UInt8.toNat v4:Nat):Int) 48)||(aS .gtr ((UInt8.toNat v4:Nat):Int) 57))) then (some (.inr (Sum.inr false))) else (some (.inl (IntKind.i64.wrap (s3+1))))) else (some (.inr (Sum.inl ())))
def oh (N:Nat) (x0:Str):Option (Bool) :=
  (bif (!((aS .lss (List.length x0:Int) 1)||(aS .gtr (List.length x0:Int) 12))) then (idx x0 0) else some 0).bind fun v1=>(bif (!((aS .lss (List.length x0:Int) 1)||(aS .gtr (List.length x0:Int) 12))) then (vk N ((UInt8.toNat v1:Nat):Int)) else some false).bind fun v2=>bif (((aS .lss (List.length x0:Int) 1)||(aS .gtr (List.length x0:Int) 12))||(!v2)) then (some false) else ((bW (qE N x0) N 0).bind fun o8=>Sum.elim (fun l10=>some true) (fun r11=>some r11) o8)
def mJ (N:Nat) (l10:(List (Str×Bool))) (v13:dh) (s14:Int):Option (Int ⊕ (Unit ⊕ Int)) :=
  bif (aS .lss s14 (List.length v13.Next:Int)) then ((idx v13.Next s14).bind fun v15=>bif (!(iw false l10 v15)) then (some (.inr (Sum.inr 6))) else (bif (Bq .eql v15 v13.Name) then (some (.inr (Sum.inr 3))) else (some (.inl (IntKind.i64.wrap (s14+1)))))) else (some (.inr (Sum.inl ())))
def mG (N:Nat) (x0:GPermitPlan) (l10:(List (Str×Bool))) (s12:Int):Option (Int ⊕ (Unit ⊕ Int)) :=
  bif (aS .lss s12 (List.length x0.bF:Int)) then ((idx x0.bF s12).bind fun v13=>(bW (mJ N l10 v13) N 0).bind fun Yl=>Sum.elim (fun l21=>some (.inl (IntKind.i64.wrap (s12+1)))) (fun r22=>some (.inr (Sum.inr r22))) Yl) else (some (.inr (Sum.inl ())))
def mF (N:Nat) (x0:GPermitPlan) (s1:((List (Str×Bool))×Int)):Option (((List (Str×Bool))×Int) ⊕ ((List (Str×Bool)) ⊕ Int)) :=
  bif (aS .lss s1.2 (List.length x0.bF:Int)) then ((idx x0.bF s1.2).bind fun v2=>(oh N v2.Name).bind fun v3=>bif (!v3) then (some (.inr (Sum.inr 4))) else (bif (iw false s1.1 v2.Name) then (some (.inr (Sum.inr 5))) else (bif (aS .gtr (List.length v2.Next:Int) 30) then (some (.inr (Sum.inr 8))) else (some (.inl ((qc s1.1 v2.Name true),(IntKind.i64.wrap (s1.2+1)))))))) else (some (.inr (Sum.inl s1.1)))
def qK (N:Nat) (x0:GPermitPlan):Option (Int) :=
  (bW (mF N x0) N (([]:(List (Str×Bool))),0)).bind fun o8=>Sum.elim (fun l10=>(bW (mG N x0 l10) N 0).bind fun YJ=>Sum.elim (fun l27=>some 0) (fun r28=>some r28) YJ) (fun r11=>some r11) o8
def vI (N:Nat) (x0:Int):Option (Bool) :=
  some ((aS .geq x0 0)&&(aS .leq x0 5))
def rO (N:Nat) (x0:dh) (c0:Str):Option (Bool) :=
  some (Bq .eql x0.Name c0)
def iZ (N:Nat) (x0:(List dh)) (x1:(dh→Option Bool)) (s1:Int):Option (Int ⊕ (Unit ⊕ Int)) :=
  bif (aS .lss s1 (List.length x0:Int)) then ((idx x0 s1).bind fun v2=>(x1 v2).bind fun v3=>bif v3 then (some (.inr (Sum.inr s1))) else (some (.inl (IntKind.i64.wrap (s1+1))))) else (some (.inr (Sum.inl ())))
def jl (N:Nat) (x0:(List dh)) (x1:(dh→Option Bool)):Option (Int) :=
  (bW (iZ N x0 x1) N 0).bind fun o6=>Sum.elim (fun l8=>some (-1)) (fun r9=>some r9) o6
def je (N:Nat) (x0:GPermitPlan) (x1:Str):Option (dh×Bool) :=
  (jl N x0.bF (fun y0=>rO N y0 x1)).bind fun v1=>bif (aS .lss v1 0) then (some ((⟨[],false,[]⟩:dh),false)) else ((idx x0.bF v1).bind fun v2=>some (v2,true))
def qX (N:Nat) (x0:aA) (c0:Str):Option (Bool) :=
  some (Bq .eql x0.Name c0)
def iL (N:Nat) (x0:(List aA)) (x1:(aA→Option Bool)) (s1:Int):Option (Int ⊕ (Unit ⊕ Int)) :=
  bif (aS .lss s1 (List.length x0:Int)) then ((idx x0 s1).bind fun v2=>(x1 v2).bind fun v3=>bif v3 then (some (.inr (Sum.inr s1))) else (some (.inl (IntKind.i64.wrap (s1+1))))) else (some (.inr (Sum.inl ())))
def gX (N:Nat) (x0:(List aA)) (x1:(aA→Option Bool)):Option (Int) :=
  (bW (iL N x0 x1) N 0).bind fun o6=>Sum.elim (fun l8=>some (-1)) (fun r9=>some r9) o6
def jT (N:Nat) (x0:GPermitPlan) (x1:Str):Option (aA×Bool) :=
  (gX N x0.ai (fun y0=>qX N y0 x1)).bind fun v1=>bif (aS .lss v1 0) then (some ((⟨[],0,[],0,0,[]⟩:aA),false)) else ((idx x0.ai v1).bind fun v2=>some (v2,true))
def lU (N:Nat) (x0:GPermitPlan) (v17:aA) (s18:Int):Option (Int ⊕ (Unit ⊕ Int)) :=
  bif (aS .lss s18 (List.length v17.Locks:Int)) then ((idx v17.Locks s18).bind fun v19=>(jT N x0 v19).bind fun v20=>bif (!v20.2) then (some (.inr (Sum.inr 6))) else (bif ((aS .neq v20.1.Kind 5)||(aS .eql v17.Kind 5)) then (some (.inr (Sum.inr 3))) else (some (.inl (IntKind.i64.wrap (s18+1)))))) else (some (.inr (Sum.inl ())))
def lT (N:Nat) (x0:GPermitPlan) (s16:Int):Option (Int ⊕ (Unit ⊕ Int)) :=
  bif (aS .lss s16 (List.length x0.ai:Int)) then ((idx x0.ai s16).bind fun v17=>(bW (lU N x0 v17) N 0).bind fun Tt=>Sum.elim (fun PD=>some (.inl (IntKind.i64.wrap (s16+1)))) (fun r27=>some (.inr (Sum.inr r27))) Tt) else (some (.inr (Sum.inl ())))
def lQ (N:Nat) (x0:GPermitPlan) (s1:((List (Str×Bool))×Int)):Option (((List (Str×Bool))×Int) ⊕ (Unit ⊕ Int)) :=
  bif (aS .lss s1.2 (List.length x0.ai:Int)) then ((idx x0.ai s1.2).bind fun v2=>(je N x0 v2.Space).bind fun v3=>(oh N v2.Name).bind fun v4=>bif (!v4) then (some (.inr (Sum.inr 4))) else (bif (iw false s1.1 v2.Name) then (some (.inr (Sum.inr 5))) else ((vI N v2.Kind).bind fun v5=>bif ((((!v5)||(aS .lss v2.From 0))||(aS .geq v2.From v2.To))||(aS .gtr v2.To 1000000)) then (some (.inr (Sum.inr 2))) else (bif (!v3.2) then (some (.inr (Sum.inr 6))) else (bif (aS .gtr (List.length v2.Locks:Int) 10) then (some (.inr (Sum.inr 8))) else (some (.inl ((qc s1.1 v2.Name true),(IntKind.i64.wrap (s1.2+1)))))))))) else (some (.inr (Sum.inl ())))
def qw (N:Nat) (x0:GPermitPlan):Option (Int) :=
  (bW (lQ N x0) N (([]:(List (Str×Bool))),0)).bind fun VJ=>Sum.elim (fun l14=>(bW (lT N x0) N 0).bind fun o30=>Sum.elim (fun l32=>some 0) (fun r33=>some r33) o30) (fun r15=>some r15) VJ
def nU (N:Nat) (x0:GPermitPlan) (s2:Int):Option (Int ⊕ (Unit ⊕ Int)) :=
  bif (aS .lss s2 (List.length x0.cZ:Int)) then ((idx x0.cZ s2).bind fun v3=>(vI N v3.A).bind fun v4=>(bif (!(!v4)) then (vI N v3.B) else some false).bind fun v5=>bif ((((!v4)||(!v5))||(aS .lss v3.Reach 0))||(aS .gtr v3.Reach 2)) then (some (.inr (Sum.inr 2))) else (some (.inl (IntKind.i64.wrap (s2+1))))) else (some (.inr (Sum.inl ())))
def mV (N:Nat) (x0:GPermitPlan):Option (Int) :=
  bif (((aS .gtr (List.length x0.bF:Int) 30)||(aS .gtr (List.length x0.cZ:Int) 30))||(aS .gtr (List.length x0.ai:Int) 20)) then (some 8) else (bif ((aS .lss x0.dw 1)||(aS .gtr x0.dw 10000)) then (some 2) else ((qK N x0).bind fun v1=>bif (aS .neq v1 0) then (some v1) else ((bW (nU N x0) N 0).bind fun o8=>Sum.elim (fun l10=>(qw N x0).bind fun v12=>some v12) (fun r11=>some r11) o8)))
def jI (N:Nat) (x0:(List Str)) (x1:Str) (s1:Int):Option (Int ⊕ (Unit ⊕ Int)) :=
  bif (aS .lss s1 (List.length x0:Int)) then ((idx x0 s1).bind fun v2=>bif (Bq .eql x1 v2) then (some (.inr (Sum.inr s1))) else (some (.inl (IntKind.i64.wrap (s1+1))))) else (some (.inr (Sum.inl ())))
def ou (N:Nat) (x0:(List Str)) (x1:Str):Option (Int) :=
  (bW (jI N x0 x1) N 0).bind fun o5=>Sum.elim (fun l7=>some (-1)) (fun r8=>some r8) o5
def eY (N:Nat) (x0:(List Str)) (x1:Str):Option (Bool) :=
  (ou N x0 x1).bind fun v1=>some (aS .geq v1 0)
def qF (N:Nat) (x0:GPermitPlan) (x1:Str) (x2:Str):Option (Int) :=
  (je N x0 x1).bind fun v1=>(je N x0 x2).bind fun v2=>bif (Bq .eql x1 x2) then (some 0) else ((eY N v1.1.Next x2).bind fun v3=>(bif (!v3) then (eY N v2.1.Next x1) else some false).bind fun v4=>bif (v3||v4) then (some 1) else (some 2))
def qU (N:Nat) (x0:bJ) (c0:Int) (c1:aA) (c2:aA):Option (Bool) :=
  some ((aS .leq c0 x0.Reach)&&(((aS .eql x0.A c1.Kind)&&(aS .eql x0.B c2.Kind))||((aS .eql x0.A c2.Kind)&&(aS .eql x0.B c1.Kind))))
def gy (N:Nat) (x0:(List bJ)) (x1:(bJ→Option Bool)) (s1:Int):Option (Int ⊕ (Unit ⊕ Int)) :=
  bif (aS .lss s1 (List.length x0:Int)) then ((idx x0 s1).bind fun v2=>(x1 v2).bind fun v3=>bif v3 then (some (.inr (Sum.inr s1))) else (some (.inl (IntKind.i64.wrap (s1+1))))) else (some (.inr (Sum.inl ())))
def gY (N:Nat) (x0:(List bJ)) (x1:(bJ→Option Bool)):Option (Int) :=
  (bW (gy N x0 x1) N 0).bind fun o6=>Sum.elim (fun l8=>some (-1)) (fun r9=>some r9) o6
def iV (N:Nat) (x0:(List bJ)) (x1:(bJ→Option Bool)):Option (Bool) :=
  (gY N x0 x1).bind fun v1=>some (aS .geq v1 0)
def pU (N:Nat) (x0:GPermitPlan) (x1:aA) (x2:aA):Option (Bool) :=
  bif (Bq .eql x1.Name x2.Name) then (some false) else ((qF N x0 x1.Space x2.Space).bind fun v1=>(iV N x0.cZ (fun y0=>qU N y0 v1 x1 x2)).bind fun v2=>some v2)
def xZ (N:Nat) (x0:GPermitPlan) (x1:Str) (x2:Str):Option (Bool×Int) :=
  (mV N x0).bind fun v1=>bif (aS .neq v1 0) then (some (false,v1)) else ((jT N x0 x1).bind fun v2=>(jT N x0 x2).bind fun v3=>bif ((!v2.2)||(!v3.2)) then (some (false,6)) else ((pU N x0 v2.1 v3.1).bind fun v4=>some (v4,0)))
def zi (N:Nat):Option (Bool) :=
  (x9 N).bind fun v1=>(xZ N (⟨[(⟨([104,111,108,100]:Str),false,[]⟩:dh)],v1,[(⟨([97]:Str),0,([104,111,108,100]:Str),0,9,[]⟩:aA),(⟨([98]:Str),2,([104,111,108,100]:Str),0,9,[]⟩:aA)],60⟩:GPermitPlan) ([97]:Str) ([98]:Str)).bind fun v2=>some ((aS .eql v2.2 0)&&v2.1)
def vY (N:Nat) (x0:GPermitPlan):Option (Int) :=
  (mV N x0).bind fun v1=>bif (aS .neq v1 0) then (some v1) else (bif (aS .gtr (List.length x0.ai:Int) 10) then (some 8) else (some 0))
def qV (N:Nat) (x0:aA) (c0:Str):Option (Bool) :=
  some (Bq .eql x0.Name c0)
def jD (N:Nat) (x0:(List aA)) (x1:(aA→Option Bool)):Option (Bool) :=
  (gX N x0 x1).bind fun v1=>some (aS .geq v1 0)
def oN (N:Nat) (x1:(List aA)) (v2:aA) (s13:Int):Option (Int ⊕ (Unit ⊕ Bool)) :=
  bif (aS .lss s13 (List.length v2.Locks:Int)) then ((idx v2.Locks s13).bind fun v14=>(jD N x1 (fun y0=>qV N y0 v14)).bind fun v15=>bif (!v15) then (some (.inr (Sum.inr false))) else (some (.inl (IntKind.i64.wrap (s13+1))))) else (some (.inr (Sum.inl ())))
def oM (N:Nat) (x0:GPermitPlan) (v2:aA) (v3:(List aA)) (s4:Int):Option (Int ⊕ (Unit ⊕ Bool)) :=
  bif (aS .lss s4 (List.length v3:Int)) then ((idx v3 s4).bind fun v5=>(pU N x0 v2 v5).bind fun v6=>bif v6 then (some (.inr (Sum.inr false))) else (some (.inl (IntKind.i64.wrap (s4+1))))) else (some (.inr (Sum.inl ())))
def oL (N:Nat) (x0:GPermitPlan) (x1:(List aA)) (s1:Int):Option (Int ⊕ (Unit ⊕ Bool)) :=
  bif (aS .lss s1 (List.length x1:Int)) then ((idx x1 s1).bind fun v2=>(Qn x1 0 s1).bind fun v3=>(bW (oM N x0 v2 v3) N 0).bind fun o9=>Sum.elim (fun l11=>(bW (oN N x1 v2) N 0).bind fun YH=>Sum.elim (fun l20=>some (.inl (IntKind.i64.wrap (s1+1)))) (fun r21=>some (.inr (Sum.inr r21))) YH) (fun r12=>some (.inr (Sum.inr r12))) o9) else (some (.inr (Sum.inl ())))
def qO (N:Nat) (x0:GPermitPlan) (x1:(List aA)):Option (Bool) :=
  (bW (oL N x0 x1) N 0).bind fun YJ=>Sum.elim (fun l27=>some true) (fun r28=>some r28) YJ
def pz (N:Nat) (x0:(List (List Int))) (x1:((List Int)→(List Int)→Option Int)):Option (List (List Int)):=Uf x1 x0
def uI (N:Nat) (x0:Int):Option (Bool) :=
  some (aS .neq x0 x0)
def rG (N:Nat) (x0:Int) (x1:Int):Option (Int) :=
  (uI N x0).bind fun v1=>(uI N x1).bind fun v2=>bif v1 then (bif v2 then (some 0) else (some (-1))) else (bif v2 then (some 1) else (bif (aS .lss x0 x1) then (some (-1)) else (bif (aS .gtr x0 x1) then (some 1) else (some 0))))
def fP (N:Nat) (x0:(List Int)) (x1:(List Int)) (s1:Int):Option (Int ⊕ (Unit ⊕ Int)) :=
  bif (aS .lss s1 (List.length x0:Int)) then ((idx x0 s1).bind fun v2=>bif (aS .geq s1 (List.length x1:Int)) then (some (.inr (Sum.inr 1))) else ((idx x1 s1).bind fun v3=>(rG N v2 v3).bind fun v4=>bif (aS .neq v4 0) then (some (.inr (Sum.inr v4))) else (some (.inl (IntKind.i64.wrap (s1+1)))))) else (some (.inr (Sum.inl ())))
def nZ (N:Nat) (x0:(List Int)) (x1:(List Int)):Option (Int) :=
  (bW (fP N x0 x1) N 0).bind fun o8=>Sum.elim (fun l10=>bif (aS .lss (List.length x0:Int) (List.length x1:Int)) then (some (-1)) else (some 0)) (fun r11=>some r11) o8
def og (N:Nat) (x0:(List Int)) (s1:Int):Option (Int ⊕ (Unit ⊕ Int)) :=
  bif (aS .lss s1 (List.length x0:Int)) then ((idx x0 s1).bind fun v2=>bif (aS .neq v2 0) then (some (.inr (Sum.inr v2))) else (some (.inl (IntKind.i64.wrap (s1+1))))) else (some (.inr (Sum.inl ())))
def zk (N:Nat) (x0:(List Int)):Option (Int) :=
  (bW (og N x0) N 0).bind fun o5=>Sum.elim (fun l7=>some 0) (fun r8=>some r8) o5
def lM (N:Nat) (x0:(List Int)) (x1:(List Int)):Option (Int) :=
  (rG N (List.length x0:Int) (List.length x1:Int)).bind fun v1=>(nZ N x0 x1).bind fun v2=>(zk N [v1,v2]).bind fun v3=>some v3
def qC (N:Nat) (x0:GPermitPlan) (s2:((List (List Int))×Int)) (s3:((List Int)×(List aA)×Int)):Option (((List Int)×(List aA)×Int) ⊕ ((List Int)×(List aA))) :=
  bif (aS .lss s3.2.2 (List.length x0.ai:Int)) then ((idx x0.ai s3.2.2).bind fun v4=>(SH .i64 s2.2 s3.2.2).bind fun v5=>bif (aS .eql (SG .and .i64 v5 1) 1) then ((app s3.1 [s3.2.2]).bind fun v6=>(app s3.2.1 [v4]).bind fun v7=>some (.inl (v6,v7,(IntKind.i64.wrap (s3.2.2+1))))) else (some (.inl (s3.1,s3.2.1,(IntKind.i64.wrap (s3.2.2+1)))))) else (some (.inr (s3.1,s3.2.1)))
def qB (N:Nat) (x0:GPermitPlan) (v1:Int) (s2:((List (List Int))×Int)):Option (((List (List Int))×Int) ⊕ (List (List Int))) :=
  bif (aS .lss s2.2 v1) then ((bW (qC N x0 s2) N ([],[],0)).bind fun Tv=>(qO N x0 Tv.2).bind fun v12=>bif v12 then ((app s2.1 [Tv.1]).bind fun v13=>some (.inl (v13,(IntKind.i64.wrap (s2.2+1))))) else (some (.inl (s2.1,(IntKind.i64.wrap (s2.2+1)))))) else (some (.inr s2.1))
def wW (N:Nat) (x0:GPermitPlan):Option ((List (List Int))) :=
  (Xp .i64 1 (List.length x0.ai:Int)).bind fun v1=>(bW (qB N x0 v1) N ([],0)).bind fun YF=>(pz N YF (fun y0 y1=>lM N y0 y1)).bind fun v19=>some v19
def pV (N:Nat) (x0:GPermitPlan) (v2:(List Int)) (s3:((List Str)×Int)):Option (((List Str)×Int) ⊕ (List Str)) :=
  bif (aS .lss s3.2 (List.length v2:Int)) then ((idx v2 s3.2).bind fun v4=>(idx x0.ai v4).bind fun v5=>(app s3.1 [v5.Name]).bind fun v6=>some (.inl (v6,(IntKind.i64.wrap (s3.2+1))))) else (some (.inr s3.1))
def qP (N:Nat) (x0:GPermitPlan) (x1:(List (List Int))) (s1:((List (List Str))×Int)):Option (((List (List Str))×Int) ⊕ (List (List Str))) :=
  bif (aS .lss s1.2 (List.length x1:Int)) then ((idx x1 s1.2).bind fun v2=>(bW (pV N x0 v2) N ([],0)).bind fun o8=>(app s1.1 [o8]).bind fun v10=>some (.inl (v10,(IntKind.i64.wrap (s1.2+1))))) else (some (.inr s1.1))
def vZ (N:Nat) (x0:GPermitPlan) (x1:(List (List Int))):Option ((List (List Str))) :=
  (bW (qP N x0 x1) N ([],0)).bind fun TI=>some TI
def rM (N:Nat) (x0:GPermitPlan):Option ((List (List Str))×Int) :=
  (vY N x0).bind fun v1=>bif (aS .neq v1 0) then (some ([],v1)) else ((wW N x0).bind fun v2=>(vZ N x0 v2).bind fun v3=>some (v3,0))
def AL (N:Nat) (x0:Int) (x1:Int):Option (Int) :=
  (YZ x0 x1).bind fun v1=>bif (aS .lss v1 0) then (some (IntKind.i64.wrap (v1+x1))) else (some v1)
def jX (N:Nat) (x0:(List dh)):Option ((List dh)) :=
  (app ([]:(List dh)) x0).bind fun v1=>some v1
def iR (N:Nat) (x0:(List bJ)):Option ((List bJ)) :=
  (app ([]:(List bJ)) x0).bind fun v1=>some v1
def jH (N:Nat) (x0:(List aA)):Option ((List aA)) :=
  (app ([]:(List aA)) x0).bind fun v1=>some v1
def fG (N:Nat) (x0:(List Str)):Option ((List Str)) :=
  (app ([]:(List Str)) x0).bind fun v1=>some v1
def oD (N:Nat) (v3:(List aA)) (s14:(Int×(List aA))):Option ((Int×(List aA)) ⊕ (List aA)) :=
  bif (aS .lss s14.1 (List.length v3:Int)) then ((idx s14.2 s14.1).bind fun v15=>(fG N v15.Locks).bind fun v16=>(idx s14.2 s14.1).bind fun v17=>some (.inl ((IntKind.i64.wrap (s14.1+1)),(List.set s14.2 (Int.toNat s14.1) ({ v17 with Locks:=v16 }:aA))))) else (some (.inr s14.2))
def oC (N:Nat) (v1:(List dh)) (s7:(Int×(List dh))):Option ((Int×(List dh)) ⊕ (List dh)) :=
  bif (aS .lss s7.1 (List.length v1:Int)) then ((idx s7.2 s7.1).bind fun v8=>(fG N v8.Next).bind fun v9=>(idx s7.2 s7.1).bind fun v10=>some (.inl ((IntKind.i64.wrap (s7.1+1)),(List.set s7.2 (Int.toNat s7.1) ({ v10 with Next:=v9 }:dh))))) else (some (.inr s7.2))
def vg (N:Nat) (x0:GPermitPlan):Option (GPermitPlan) :=
  (jX N x0.bF).bind fun v1=>(iR N x0.cZ).bind fun v2=>(jH N x0.ai).bind fun v3=>(bW (oC N v1) N (0,v1)).bind fun VJ=>(bW (oD N v3) N (0,v3)).bind fun Yl=>some ({ ({ x0 with cZ:=v2 }:GPermitPlan) with bF:=VJ,ai:=Yl }:GPermitPlan)
def lF (N:Nat) (x0:(List Int)) (x1:Int) (s1:Int):Option (Int ⊕ (Unit ⊕ Int)) :=
  bif (aS .lss s1 (List.length x0:Int)) then ((idx x0 s1).bind fun v2=>bif (aS .eql x1 v2) then (some (.inr (Sum.inr s1))) else (some (.inl (IntKind.i64.wrap (s1+1))))) else (some (.inr (Sum.inl ())))
def rq (N:Nat) (x0:(List Int)) (x1:Int):Option (Int) :=
  (bW (lF N x0 x1) N 0).bind fun o5=>Sum.elim (fun l7=>some (-1)) (fun r8=>some r8) o5
def nM (N:Nat) (x0:(List Int)) (x1:Int):Option (Bool) :=
  (rq N x0 x1).bind fun v1=>some (aS .geq v1 0)
def dU (N:Nat) (g0:ah) (aJ:(List (Str×af))) (aB:(List (Str×aj))) (aH:(List (Str×Str))) (x1:Str) (x2:(List Int)):Option Bool :=
  (nM N x2 ((iw (⟨0,[],0⟩:af) aJ x1).state)).bind fun v1=>some v1
def dN (N:Nat) (g0:ah) (aJ:(List (Str×af))) (aB:(List (Str×aj))) (aH:(List (Str×Str))) (x1:Str) (x2:Int):Option (List (Str×af)) :=
  some (qc aJ x1 ({ (iw (⟨0,[],0⟩:af) aJ x1) with state:=x2 }:af))
def qM (N:Nat) (x0:GPermitPlan) (v1:(dh×Bool)) (s11:((List Str)×Int)):Option (((List Str)×Int) ⊕ (List Str)) :=
  bif (aS .lss s11.2 (List.length x0.bF:Int)) then ((idx x0.bF s11.2).bind fun v12=>(bif v12.dS then (qF N x0 v12.Name v1.1.Name) else some 0).bind fun v13=>bif (v12.dS&&(aS .eql v13 1)) then ((app s11.1 [v12.Name]).bind fun v14=>some (.inl (v14,(IntKind.i64.wrap (s11.2+1))))) else (some (.inl (s11.1,(IntKind.i64.wrap (s11.2+1)))))) else (some (.inr s11.1))
def vX (N:Nat) (x0:GPermitPlan) (x1:aA):Option ((List Str)) :=
  (je N x0 x1.Space).bind fun v1=>((((bif (aS .eql x1.Kind 0) then (some (aS .eql x1.Kind 0)) else (bif (aS .eql x1.Kind 1) then (some (aS .eql x1.Kind 1)) else (some (aS .eql x1.Kind 2)))):Option Bool).bind fun o4=>bif o4 then (bif v1.1.dS then ((app [] [v1.1.Name]).bind fun v6=>some v6) else (some [])) else (some [])):Option (List Str)).bind fun o9=>bif (aS .eql x1.Kind 0) then ((bW (qM N x0 v1) N (o9,0)).bind fun YF=>some YF) else (some o9)
def pR (N:Nat) (g0:ah) (aJ:(List (Str×af))) (aB:(List (Str×aj))) (aH:(List (Str×Str))) (x1:Str):Option (Bool×Bool) :=
  (je N g0.plan x1).bind fun v1=>bif (!v1.1.dS) then (some (true,true)) else (some ((((((mP aB x1)&&(aS .leq (IntKind.i64.wrap (g0.now - ((iw (⟨0,0,0⟩:aj) aB x1).at_))) g0.plan.dw))&&(aS .geq ((iw (⟨0,0,0⟩:aj) aB x1).kz) 195))&&(aS .leq ((iw (⟨0,0,0⟩:aj) aB x1).kz) 235))&&(aS .leq ((iw (⟨0,0,0⟩:aj) aB x1).MJ) 50)),((((((mP aB x1)&&(aS .leq (IntKind.i64.wrap (g0.now - ((iw (⟨0,0,0⟩:aj) aB x1).at_))) g0.plan.dw))&&(aS .geq ((iw (⟨0,0,0⟩:aj) aB x1).kz) 195))&&(aS .leq ((iw (⟨0,0,0⟩:aj) aB x1).kz) 235))&&(aS .leq ((iw (⟨0,0,0⟩:aj) aB x1).MJ) 50))&&(aS .leq ((iw (⟨0,0,0⟩:aj) aB x1).MJ) 10))))
def kK (N:Nat) (g0:ah) (aJ:(List (Str×af))) (aB:(List (Str×aj))) (aH:(List (Str×Str))) (x0:Str) (c1:aA):Option Bool :=
  (pR N g0 aJ aB aH x0).bind fun v1=>bif (aS .eql c1.Kind 0) then (some v1.2) else (some v1.1)
def eP (N:Nat) (g0:ah) (aJ:(List (Str×af))) (aB:(List (Str×aj))) (aH:(List (Str×Str))) (x0:(List Str)) (nI:aA) (s1:Int):Option (Int ⊕ (Unit ⊕ Int)) :=
  bif (aS .lss s1 (List.length x0:Int)) then ((idx x0 s1).bind fun v2=>(kK N g0 aJ aB aH v2 nI).bind fun v3=>bif v3 then (some (.inr (Sum.inr s1))) else (some (.inl (IntKind.i64.wrap (s1+1))))) else (some (.inr (Sum.inl ())))
def fE (N:Nat) (g0:ah) (aJ:(List (Str×af))) (aB:(List (Str×aj))) (aH:(List (Str×Str))) (x0:(List Str)) (nI:aA):Option Int :=
  (bW (eP N g0 aJ aB aH x0 nI) N 0).bind fun o6=>Sum.elim (fun l8=>some (-1)) (fun r9=>some r9) o6
def eG (N:Nat) (g0:ah) (aJ:(List (Str×af))) (aB:(List (Str×aj))) (aH:(List (Str×Str))) (nI:aA) (s2:((List Str)×Int×Int)):Option (((List Str)×Int×Int) ⊕ ((List Str)×Int)) :=
  bif (aS .lss s2.2.2 (List.length s2.1:Int)) then ((idx s2.1 s2.2.2).bind fun v3=>(kK N g0 aJ aB aH v3 nI).bind fun v4=>bif (!v4) then ((idx s2.1 s2.2.1).bind fun v5=>some (.inl ((List.set s2.1 (Int.toNat s2.2.1) v3),(IntKind.i64.wrap (s2.2.1+1)),(IntKind.i64.wrap (s2.2.2+1))))) else (some (.inl (s2.1,s2.2.1,(IntKind.i64.wrap (s2.2.2+1)))))) else (some (.inr (s2.1,s2.2.1)))
def fA (N:Nat) (g0:ah) (aJ:(List (Str×af))) (aB:(List (Str×aj))) (aH:(List (Str×Str))) (x0:(List Str)) (nI:aA):Option (List Str) :=
  (fE N g0 aJ aB aH x0 nI).bind fun v1=>bif (aS .eql v1 (-1)) then (some x0) else ((bW (eG N g0 aJ aB aH nI) N (x0,v1,(IntKind.i64.wrap (v1+1)))).bind fun o8=>(Qn o8.1 o8.2 (List.length o8.1:Int)).bind fun v10=>(bif Nat.beq ((Int.toNat o8.2)+(Int.toNat (List.length o8.1:Int) - Int.toNat o8.2)) (List.length o8.1) then some (List.take (Int.toNat o8.2) o8.1 ++ List.replicate (Int.toNat (List.length o8.1:Int) - Int.toNat o8.2) []) else none).bind fun v11=>(Qn v11 0 o8.2).bind fun v12=>some v12)
def lG (N:Nat) (g0:ah) (aJ:(List (Str×af))) (aB:(List (Str×aj))) (aH:(List (Str×Str))) (x1:aA):Option (List Str) :=
  (vX N g0.plan x1).bind fun v1=>(fA N g0 aJ aB aH v1 x1).bind fun v2=>some v2
def jy (N:Nat) (g0:ah) (aJ:(List (Str×af))) (aB:(List (Str×aj))) (aH:(List (Str×Str))) (x0:Str):Option Bool :=
  (dU N g0 aJ aB aH x0 [2]).bind fun v1=>some v1
def eH (N:Nat) (g0:ah) (aJ:(List (Str×af))) (aB:(List (Str×aj))) (aH:(List (Str×Str))) (x0:(List Str)) (s1:Int):Option (Int ⊕ (Unit ⊕ Int)) :=
  bif (aS .lss s1 (List.length x0:Int)) then ((idx x0 s1).bind fun v2=>(jy N g0 aJ aB aH v2).bind fun v3=>bif v3 then (some (.inr (Sum.inr s1))) else (some (.inl (IntKind.i64.wrap (s1+1))))) else (some (.inr (Sum.inl ())))
def fC (N:Nat) (g0:ah) (aJ:(List (Str×af))) (aB:(List (Str×aj))) (aH:(List (Str×Str))) (x0:(List Str)):Option Int :=
  (bW (eH N g0 aJ aB aH x0) N 0).bind fun o6=>Sum.elim (fun l8=>some (-1)) (fun r9=>some r9) o6
def dH (N:Nat) (g0:ah) (aJ:(List (Str×af))) (aB:(List (Str×aj))) (aH:(List (Str×Str))) (s2:((List Str)×Int×Int)):Option (((List Str)×Int×Int) ⊕ ((List Str)×Int)) :=
  bif (aS .lss s2.2.2 (List.length s2.1:Int)) then ((idx s2.1 s2.2.2).bind fun v3=>(jy N g0 aJ aB aH v3).bind fun v4=>bif (!v4) then ((idx s2.1 s2.2.1).bind fun v5=>some (.inl ((List.set s2.1 (Int.toNat s2.2.1) v3),(IntKind.i64.wrap (s2.2.1+1)),(IntKind.i64.wrap (s2.2.2+1))))) else (some (.inl (s2.1,s2.2.1,(IntKind.i64.wrap (s2.2.2+1)))))) else (some (.inr (s2.1,s2.2.1)))
def gU (N:Nat) (g0:ah) (aJ:(List (Str×af))) (aB:(List (Str×aj))) (aH:(List (Str×Str))) (x0:(List Str)):Option (List Str) :=
  (fC N g0 aJ aB aH x0).bind fun v1=>bif (aS .eql v1 (-1)) then (some x0) else ((bW (dH N g0 aJ aB aH) N (x0,v1,(IntKind.i64.wrap (v1+1)))).bind fun o8=>(Qn o8.1 o8.2 (List.length o8.1:Int)).bind fun v10=>(bif Nat.beq ((Int.toNat o8.2)+(Int.toNat (List.length o8.1:Int) - Int.toNat o8.2)) (List.length o8.1) then some (List.take (Int.toNat o8.2) o8.1 ++ List.replicate (Int.toNat (List.length o8.1:Int) - Int.toNat o8.2) []) else none).bind fun v11=>(Qn v11 0 o8.2).bind fun v12=>some v12)
def jW (N:Nat) (g0:ah) (aJ:(List (Str×af))) (aB:(List (Str×aj))) (aH:(List (Str×Str))) (x1:aA):Option (List Str) :=
  (fG N x1.Locks).bind fun v1=>(gU N g0 aJ aB aH v1).bind fun v2=>some v2
def jM (N:Nat) (g0:ah) (aB:(List (Str×aj))) (aH:(List (Str×Str))) (s10:(Bool×Int×(List (Str×af)))):Option ((Bool×Int×(List (Str×af))) ⊕ (Bool×(List (Str×af)))) :=
  bif (aS .lss s10.2.1 (List.length g0.plan.ai:Int)) then ((idx g0.plan.ai s10.2.1).bind fun v11=>(dU N g0 s10.2.2 aB aH v11.Name [2]).bind fun v12=>(bif v12 then (lG N g0 s10.2.2 aB aH v11) else some []).bind fun v13=>(bif (v12&&(!(aS .gtr (List.length v13:Int) 0))) then (jW N g0 s10.2.2 aB aH v11) else some []).bind fun v14=>bif (v12&&((aS .gtr (List.length v13:Int) 0)||(aS .gtr (List.length v14:Int) 0))) then ((dN N g0 s10.2.2 aB aH v11.Name 3).bind fun v15=>some (.inl (true,(IntKind.i64.wrap (s10.2.1+1)),v15))) else (some (.inl (s10.1,(IntKind.i64.wrap (s10.2.1+1)),s10.2.2)))) else (some (.inr (s10.1,s10.2.2)))
def kM (N:Nat) (g0:ah) (aB:(List (Str×aj))) (aH:(List (Str×Str))) (s9:(Bool×(List (Str×af)))):Option ((Bool×(List (Str×af))) ⊕ (List (Str×af))) :=
  bif s9.1 then ((bW (jM N g0 aB aH) N (false,0,s9.2)).bind fun YH=>some (.inl (YH.1,YH.2))) else (some (.inr s9.2))
def kL (N:Nat) (g0:ah) (aB:(List (Str×aj))) (aH:(List (Str×Str))) (s1:(Int×(List (Str×af)))):Option ((Int×(List (Str×af))) ⊕ (List (Str×af))) :=
  bif (aS .lss s1.1 (List.length g0.plan.ai:Int)) then ((idx g0.plan.ai s1.1).bind fun v2=>(dU N g0 s1.2 aB aH v2.Name [0,1,2,3]).bind fun v3=>bif (v3&&(aS .leq ((iw (⟨0,[],0⟩:af) s1.2 v2.Name).yB) g0.now)) then ((dN N g0 s1.2 aB aH v2.Name 6).bind fun v4=>some (.inl ((IntKind.i64.wrap (s1.1+1)),v4))) else (some (.inl ((IntKind.i64.wrap (s1.1+1)),s1.2)))) else (some (.inr s1.2))
def jP (N:Nat) (g0:ah) (aJ:(List (Str×af))) (aB:(List (Str×aj))) (aH:(List (Str×Str))):Option (List (Str×af)) :=
  (bW (kL N g0 aB aH) N (0,aJ)).bind fun o7=>(bW (kM N g0 aB aH) N (true,o7)).bind fun o22=>some o22
def nS (N:Nat) (x0:GPermitPlan) (s7:(Int×(List (Str×af)))):Option ((Int×(List (Str×af))) ⊕ (List (Str×af))) :=
  bif (aS .lss s7.1 (List.length x0.ai:Int)) then ((idx x0.ai s7.1).bind fun v8=>some (.inl ((IntKind.i64.wrap (s7.1+1)),(qc s7.2 v8.Name (⟨0,[],v8.To⟩:af))))) else (some (.inr s7.2))
def uH (N:Nat) (x0:GPermitPlan):Option ((Option (ah×(List (Str×af))×(List (Str×aj))×(List (Str×Str))))×(Int)) :=
  (mV N x0).bind fun v1=>bif (aS .neq v1 0) then (some (none,v1)) else ((vg N x0).bind fun v2=>(bW (nS N x0) N (0,([]:(List (Str×af))))).bind fun Tv=>(jP N (⟨v2,0,[]⟩:ah) Tv ([]:(List (Str×aj))) ([]:(List (Str×Str)))).bind fun v12=>some ((some ((⟨v2,0,[]⟩:ah),v12,([]:(List (Str×aj))),([]:(List (Str×Str))))),0))
def vU (N:Nat):Option ((List bf)) :=
  some [(⟨([116,105,99,107]:Str),([]:Str),([]:(List Int)),(some 95)⟩:bf),(⟨([97,112,112,114,111,118,101]:Str),([110,112]:Str),[0],(some 96)⟩:bf),(⟨([111,112,101,110]:Str),([110,112]:Str),[1],(some 97)⟩:bf),(⟨([115,117,115,112,101,110,100]:Str),([110]:Str),[2],(some 98)⟩:bf),(⟨([114,101,115,117,109,101]:Str),([110,112]:Str),[3],(some 97)⟩:bf),(⟨([99,108,111,115,101]:Str),([110]:Str),[2,3],(some 99)⟩:bf),(⟨([99,97,110,99,101,108]:Str),([110]:Str),[0,1],(some 100)⟩:bf),(⟨([103,97,115]:Str),([115,111,103]:Str),([]:(List Int)),(some 101)⟩:bf),(⟨([101,110,116,101,114]:Str),([112,115]:Str),([]:(List Int)),(some 102)⟩:bf),(⟨([108,101,97,118,101]:Str),([112]:Str),([]:(List Int)),(some 103)⟩:bf),(⟨([97,108,97,114,109]:Str),([115]:Str),([]:(List Int)),(some 104)⟩:bf),(⟨([101,120,116,101,110,100]:Str),([110,112,116]:Str),[1,2,3],(some 105)⟩:bf)]
def vG (N:Nat) (x0:Int):Option (Bool) :=
  some ((aS .geq x0 0)&&(aS .leq x0 1000000))
def uU (N:Nat) (g0:ah) (aJ:(List (Str×af))) (aB:(List (Str×aj))) (aH:(List (Str×Str))) (x1:aU):Option ak :=
  some (⟨[],0⟩:ak)
def jk (N:Nat) (x0:Int) (x1:(List Str)):Option (ak) :=
  some (⟨x1,x0⟩:ak)
def nJ (N:Nat) (g0:ah) (aJ:(List (Str×af))) (aB:(List (Str×aj))) (aH:(List (Str×Str))) (x1:aU):Option ((List (Str×af))×ak) :=
  (oh N x1.Person).bind fun v1=>bif (!v1) then ((jk N 4 ([]:(List Str))).bind fun v2=>some (aJ,v2)) else (some ((qc aJ x1.Name ({ ({ (iw (⟨0,[],0⟩:af) aJ x1.Name) with state:=1 }:af) with BD:=x1.Person }:af)),(⟨[],0⟩:ak)))
def qj (N:Nat) (g0:ah) (aJ:(List (Str×af))) (aB:(List (Str×aj))) (aH:(List (Str×Str))) (x1:aA):Option aA :=
  some x1
def lC (N:Nat) (g0:ah) (aJ:(List (Str×af))) (aB:(List (Str×aj))) (aH:(List (Str×Str))) (x0:aA) (c1:aA):Option Bool :=
  (pU N g0.plan x0 c1).bind fun v1=>some v1
def fZ (N:Nat) (g0:ah) (aJ:(List (Str×af))) (aB:(List (Str×aj))) (aH:(List (Str×Str))) (nI:aA) (s1:((List Str)×Int)):Option (((List Str)×Int) ⊕ (List Str)) :=
  bif (aS .lss s1.2 (List.length g0.plan.ai:Int)) then ((idx g0.plan.ai s1.2).bind fun v2=>(dU N g0 aJ aB aH v2.Name [2]).bind fun v3=>(bif v3 then (lC N g0 aJ aB aH v2 nI) else some false).bind fun v4=>bif (v3&&v4) then ((app s1.1 [v2.Name]).bind fun v5=>some (.inl (v5,(IntKind.i64.wrap (s1.2+1))))) else (some (.inl (s1.1,(IntKind.i64.wrap (s1.2+1)))))) else (some (.inr s1.1))
def iY (N:Nat) (g0:ah) (aJ:(List (Str×af))) (aB:(List (Str×aj))) (aH:(List (Str×Str))) (nI:aA):Option (List Str) :=
  (bW (fZ N g0 aJ aB aH nI) N ([],0)).bind fun o8=>some o8
def lZ (N:Nat) (g0:ah) (aJ:(List (Str×af))) (aB:(List (Str×aj))) (x0:Str) (c1:aA):Option Bool :=
  (qF N g0.plan x0 c1.Space).bind fun v1=>some (aS .leq v1 1)
def l9 (N:Nat) (x0:(List Str)):Option ((List Str)):=NJ x0
def gQ (N:Nat) (g0:ah) (aJ:(List (Str×af))) (aB:(List (Str×aj))) (nI:aA) (s2:(List Str)) (p3:(Str×Str)):Option (List Str) :=
  (lZ N g0 aJ aB p3.2 nI).bind fun v5=>bif v5 then ((app s2 [p3.1]).bind fun v6=>some v6) else (some s2)
def iH (N:Nat) (g0:ah) (aJ:(List (Str×af))) (aB:(List (Str×aj))) (aH:(List (Str×Str))) (nI:aA):Option (List Str) :=
  Gp aH fun q4p=>(IK (gQ N g0 aJ aB nI) q4p []).bind fun s2=>(l9 N s2).bind fun v8=>some v8
def fH {S:Type} (N:Nat) (Y:S→bP→Option (S×Bool)) (o8:(List bP)) (s10:(Int×S)):Option ((Int×S) ⊕ (S ⊕ S)) :=
  bif (aS .lss s10.1 (List.length o8:Int)) then ((idx o8 s10.1).bind fun v11=>(bif (aS .gtr (List.length v11.Names:Int) 0) then (Y s10.2 v11) else some (s10.2,false)).bind fun v12=>bif ((aS .gtr (List.length v11.Names:Int) 0)&&(!v12.2)) then (some (.inr (Sum.inr v12.1))) else (some (.inl ((IntKind.i64.wrap (s10.1+1)),v12.1)))) else (some (.inr (Sum.inl s10.2)))
def jS {S:Type} (N:Nat) (Y:S→bP→Option (S×Bool)) (y0:S) (g0:ah) (aJ:(List (Str×af))) (aB:(List (Str×aj))) (aH:(List (Str×Str))) (c1:aA):Option S :=
  (bif (aS .lss g0.now c1.From) then (Y y0 (⟨2,[]⟩:bP)) else some (y0,false)).bind fun v1=>bif ((aS .lss g0.now c1.From)&&(!v1.2)) then (some v1.1) else ((jW N g0 aJ aB aH c1).bind fun v2=>(iY N g0 aJ aB aH c1).bind fun v3=>(lG N g0 aJ aB aH c1).bind fun v4=>((bif (aS .eql c1.Kind 3) then ((iH N g0 aJ aB aH c1).bind fun v5=>(app [(⟨18,v2⟩:bP),(⟨20,v3⟩:bP),(⟨21,v4⟩:bP)] [(⟨17,v5⟩:bP)]).bind fun v6=>some v6) else (some [(⟨18,v2⟩:bP),(⟨20,v3⟩:bP),(⟨21,v4⟩:bP)])):Option (List bP)).bind fun o8=>(bW (fH N Y o8) N (0,v1.1)).bind fun UH=>Sum.elim (fun l17=>some l17) (fun Yz=>some Yz) UH)
def iQ (N:Nat) (s7:ak) (i8:bP):Option (ak×Option Nat) :=
  (jk N i8.Err i8.Names).bind fun v12=>some (v12,some 0)
def mD (N:Nat) (g0:ah) (aJ:(List (Str×af))) (aB:(List (Str×aj))) (aH:(List (Str×Str))) (x1:aU):Option ((List (Str×af))×ak) :=
  (oh N x1.Person).bind fun v1=>bif (!v1) then ((jk N 4 ([]:(List Str))).bind fun v2=>some (aJ,v2)) else (bif (Bq .eql x1.Person ((iw (⟨0,[],0⟩:af) aJ x1.Name).BD)) then ((jk N 26 ([]:(List Str))).bind fun v3=>some (aJ,v3)) else ((jT N g0.plan x1.Name).bind fun v4=>(qj N g0 aJ aB aH v4.1).bind fun v5=>(jS N (yl (iQ N) 1) ((⟨[],0⟩:ak),none) g0 aJ aB aH v5).bind fun TI=>II TI (fun PX=>(dN N g0 aJ aB aH x1.Name 2).bind fun v14=>some (v14,(⟨[],0⟩:ak))) (fun PX=>some (aJ,PX))))
def sF (N:Nat) (g0:ah) (aJ:(List (Str×af))) (aB:(List (Str×aj))) (aH:(List (Str×Str))) (x1:aU):Option ((List (Str×af))×ak) :=
  (dN N g0 aJ aB aH x1.Name 3).bind fun v1=>some (v1,(⟨[],0⟩:ak))
def jg (N:Nat) (x0:aA) (c0:aA):Option (Bool) :=
  (eY N x0.Locks c0.Name).bind fun v1=>some v1
def lD (N:Nat) (g0:ah) (aJ:(List (Str×af))) (aB:(List (Str×aj))) (aH:(List (Str×Str))) (x1:(aA→Option Bool)) (s1:((List Str)×Int)):Option (((List Str)×Int) ⊕ (List Str)) :=
  bif (aS .lss s1.2 (List.length g0.plan.ai:Int)) then ((idx g0.plan.ai s1.2).bind fun v2=>(dU N g0 aJ aB aH v2.Name [2]).bind fun v3=>(bif v3 then (x1 v2) else some false).bind fun v4=>bif (v3&&v4) then ((app s1.1 [v2.Name]).bind fun v5=>some (.inl (v5,(IntKind.i64.wrap (s1.2+1))))) else (some (.inl (s1.1,(IntKind.i64.wrap (s1.2+1)))))) else (some (.inr s1.1))
def iy (N:Nat) (g0:ah) (aJ:(List (Str×af))) (aB:(List (Str×aj))) (aH:(List (Str×Str))) (x1:(aA→Option Bool)):Option (List Str) :=
  (bW (lD N g0 aJ aB aH x1) N ([],0)).bind fun o8=>some o8
def jh (N:Nat) (x0:aA) (c0:aA):Option (Bool) :=
  some (((aS .eql x0.Kind 1)&&(Bq .eql x0.Space c0.Space))&&(Bq .neq x0.Name c0.Name))
def ji (N:Nat) (x0:Str) (c0:aA):Option (Bool) :=
  some (Bq .eql x0 c0.Space)
def lK (N:Nat) (x1:(Str→Option Bool)) (s2:(List Str)) (p3:(Str×Str)):Option (List Str) :=
  (x1 p3.2).bind fun v5=>bif v5 then ((app s2 [p3.1]).bind fun v6=>some v6) else (some s2)
def ku (N:Nat) (g0:ah) (aJ:(List (Str×af))) (aB:(List (Str×aj))) (aH:(List (Str×Str))) (x1:(Str→Option Bool)):Option (List Str) :=
  Gp aH fun q4p=>(IK (lK N x1) q4p []).bind fun s2=>(l9 N s2).bind fun v8=>some v8
def lN (N:Nat) (g0:ah) (aJ:(List (Str×af))) (aB:(List (Str×aj))) (aH:(List (Str×Str))) (x1:aU):Option ((List (Str×af))×ak) :=
  (jT N g0.plan x1.Name).bind fun v1=>(je N g0.plan v1.1.Space).bind fun v2=>((bif (aS .eql v1.1.Kind 5) then ((iy N g0 aJ aB aH (fun y0=>jg N y0 v1.1)).bind fun v3=>bif (aS .gtr (List.length v3:Int) 0) then ((jk N 20 v3).bind fun v4=>some (Sum.inr v4)) else (some (Sum.inl (⟨[],0⟩:ak)))) else ((bif (aS .eql v1.1.Kind 1) then (dU N g0 aJ aB aH v1.1.Name [2]) else some false).bind fun v6=>bif (((aS .eql v1.1.Kind 1)&&v6)&&v2.1.dS) then ((iy N g0 aJ aB aH (fun y0=>jh N y0 v1.1)).bind fun v7=>(ku N g0 aJ aB aH (fun y0=>ji N y0 v1.1)).bind fun v8=>bif ((aS .eql (List.length v7:Int) 0)&&(aS .gtr (List.length v8:Int) 0)) then ((jk N 21 v8).bind fun v9=>some (Sum.inr v9)) else (some (Sum.inl (⟨[],0⟩:ak)))) else (some (Sum.inl (⟨[],0⟩:ak))))):Option (ak ⊕ ak)).bind fun TI=>Sum.elim (fun l15=>(dN N g0 aJ aB aH x1.Name 4).bind fun v17=>some (v17,(⟨[],0⟩:ak))) (fun r16=>some (aJ,r16)) TI
def tH (N:Nat) (g0:ah) (aJ:(List (Str×af))) (aB:(List (Str×aj))) (aH:(List (Str×Str))) (x1:aU):Option ((List (Str×af))×ak) :=
  (dN N g0 aJ aB aH x1.Name 5).bind fun v1=>some (v1,(⟨[],0⟩:ak))
def qm (N:Nat) (g0:ah) (aJ:(List (Str×af))) (aB:(List (Str×aj))) (aH:(List (Str×Str))) (x1:aU):Option ((List (Str×aj))×ak) :=
  (je N g0.plan x1.Space).bind fun v1=>bif (!v1.2) then ((jk N 6 ([]:(List Str))).bind fun v2=>some (aB,v2)) else (bif ((((aS .lss x1.vN 0)||(aS .gtr x1.vN 1000))||(aS .lss x1.Pq 0))||(aS .gtr x1.Pq 1000)) then ((jk N 2 ([]:(List Str))).bind fun v3=>some (aB,v3)) else (some ((qc aB x1.Space (⟨g0.now,x1.vN,x1.Pq⟩:aj)),(⟨[],0⟩:ak))))
def kH (N:Nat) (x0:aA) (c0:Str):Option (Bool) :=
  some ((aS .eql x0.Kind 1)&&(Bq .eql x0.Space c0))
def nY (N:Nat) (g0:ah) (aJ:(List (Str×af))) (aB:(List (Str×aj))) (aH:(List (Str×Str))) (x1:Str):Option Bool :=
  (iy N g0 aJ aB aH (fun y0=>kH N y0 x1)).bind fun v1=>some (aS .gtr (List.length v1:Int) 0)
def nK (N:Nat) (g0:ah) (aJ:(List (Str×af))) (aB:(List (Str×aj))) (aH:(List (Str×Str))) (x0:aA) (c1:dh):Option Bool :=
  (bif (aS .eql x0.Kind 3) then (qF N g0.plan x0.Space c1.Name) else some 0).bind fun v1=>some ((aS .eql x0.Kind 3)&&(aS .leq v1 1))
def gW (N:Nat) (g0:ah) (aJ:(List (Str×af))) (aB:(List (Str×aj))) (aH:(List (Str×Str))) (nI:dh) (s1:((List Str)×Int)):Option (((List Str)×Int) ⊕ (List Str)) :=
  bif (aS .lss s1.2 (List.length g0.plan.ai:Int)) then ((idx g0.plan.ai s1.2).bind fun v2=>(dU N g0 aJ aB aH v2.Name [2]).bind fun v3=>(bif v3 then (nK N g0 aJ aB aH v2 nI) else some false).bind fun v4=>bif (v3&&v4) then ((app s1.1 [v2.Name]).bind fun v5=>some (.inl (v5,(IntKind.i64.wrap (s1.2+1))))) else (some (.inl (s1.1,(IntKind.i64.wrap (s1.2+1)))))) else (some (.inr s1.1))
def jv (N:Nat) (g0:ah) (aJ:(List (Str×af))) (aB:(List (Str×aj))) (aH:(List (Str×Str))) (nI:dh):Option (List Str) :=
  (bW (gW N g0 aJ aB aH nI) N ([],0)).bind fun o8=>some o8
def oH (N:Nat) (g0:ah) (aJ:(List (Str×af))) (aB:(List (Str×aj))) (aH:(List (Str×Str))) (x1:aU):Option ((List (Str×Str))×ak) :=
  (oh N x1.Person).bind fun v1=>bif (!v1) then ((jk N 4 ([]:(List Str))).bind fun v2=>some (aH,v2)) else ((je N g0.plan x1.Space).bind fun v3=>bif (!v3.2) then ((jk N 6 ([]:(List Str))).bind fun v4=>some (aH,v4)) else (bif (mP aH x1.Person) then ((jk N 18 ([]:(List Str))).bind fun v5=>some (aH,v5)) else ((bif v3.1.dS then (nY N g0 aJ aB aH v3.1.Name) else some false).bind fun v6=>bif (v3.1.dS&&(!v6)) then ((jk N 21 ([]:(List Str))).bind fun v7=>some (aH,v7)) else ((jv N g0 aJ aB aH v3.1).bind fun v8=>bif (aS .gtr (List.length v8:Int) 0) then ((jk N 17 v8).bind fun v9=>some (aH,v9)) else (some ((qc aH x1.Person v3.1.Name),(⟨[],0⟩:ak)))))))
def oI (N:Nat) (g0:ah) (aJ:(List (Str×af))) (aB:(List (Str×aj))) (aH:(List (Str×Str))) (x1:aU):Option ((List (Str×Str))×ak) :=
  (oh N x1.Person).bind fun v1=>bif (!v1) then ((jk N 4 ([]:(List Str))).bind fun v2=>some (aH,v2)) else (bif (!(mP aH x1.Person)) then ((jk N 6 ([]:(List Str))).bind fun v3=>some (aH,v3)) else (some ((EC aH x1.Person),(⟨[],0⟩:ak))))
def nH (N:Nat) (g0:ah) (aJ:(List (Str×af))) (aB:(List (Str×aj))) (aH:(List (Str×Str))) (x0:aA) (c1:aU):Option Bool :=
  (bif (aS .neq x0.Kind 5) then (qF N g0.plan x0.Space c1.Space) else some 0).bind fun v1=>some ((aS .neq x0.Kind 5)&&(aS .leq v1 1))
def gV (N:Nat) (g0:ah) (aJ:(List (Str×af))) (aB:(List (Str×aj))) (aH:(List (Str×Str))) (nI:aU) (s1:((List Str)×Int)):Option (((List Str)×Int) ⊕ (List Str)) :=
  bif (aS .lss s1.2 (List.length g0.plan.ai:Int)) then ((idx g0.plan.ai s1.2).bind fun v2=>(dU N g0 aJ aB aH v2.Name [2]).bind fun v3=>(bif v3 then (nH N g0 aJ aB aH v2 nI) else some false).bind fun v4=>bif (v3&&v4) then ((app s1.1 [v2.Name]).bind fun v5=>some (.inl (v5,(IntKind.i64.wrap (s1.2+1))))) else (some (.inl (s1.1,(IntKind.i64.wrap (s1.2+1)))))) else (some (.inr s1.1))
def jr (N:Nat) (g0:ah) (aJ:(List (Str×af))) (aB:(List (Str×aj))) (aH:(List (Str×Str))) (nI:aU):Option (List Str) :=
  (bW (gV N g0 aJ aB aH nI) N ([],0)).bind fun o8=>some o8
def jV (N:Nat) (g0:ah) (aB:(List (Str×aj))) (aH:(List (Str×Str))) (v3:(List Str)) (s4:(Int×(List (Str×af)))):Option ((Int×(List (Str×af))) ⊕ (List (Str×af))) :=
  bif (aS .lss s4.1 (List.length v3:Int)) then ((idx v3 s4.1).bind fun v5=>(dN N g0 s4.2 aB aH v5 3).bind fun v6=>some (.inl ((IntKind.i64.wrap (s4.1+1)),v6))) else (some (.inr s4.2))
def oJ (N:Nat) (g0:ah) (aJ:(List (Str×af))) (aB:(List (Str×aj))) (aH:(List (Str×Str))) (x1:aU):Option ((List (Str×af))×ak) :=
  (je N g0.plan x1.Space).bind fun v1=>bif (!v1.2) then ((jk N 6 ([]:(List Str))).bind fun v2=>some (aJ,v2)) else ((jr N g0 aJ aB aH x1).bind fun v3=>(bW (jV N g0 aB aH v3) N (0,aJ)).bind fun o8=>some (o8,(⟨[],0⟩:ak)))
def nX (N:Nat) (g0:ah) (aJ:(List (Str×af))) (aB:(List (Str×aj))) (aH:(List (Str×Str))) (x1:aU):Option ((List (Str×af))×ak) :=
  (oh N x1.Person).bind fun v1=>bif (!v1) then ((jk N 4 ([]:(List Str))).bind fun v2=>some (aJ,v2)) else (bif ((aS .leq x1.To ((iw (⟨0,[],0⟩:af) aJ x1.Name).yB))||(aS .gtr x1.To 1000000)) then ((jk N 2 ([]:(List Str))).bind fun v3=>some (aJ,v3)) else (some ((qc aJ x1.Name ({ (iw (⟨0,[],0⟩:af) aJ x1.Name) with yB:=x1.To }:af)),(⟨[],0⟩:ak))))
def Dl (N:Nat) (g0:ah) (aJ:(List (Str×af))) (aB:(List (Str×aj))) (aH:(List (Str×Str))) (n:(Option Nat)) (x1:aU):Option ((List (Str×af))×(List (Str×aj))×(List (Str×Str))×ak) :=
  bif decide (n=some 95) then ((uU N g0 aJ aB aH x1).bind fun y=>some (aJ,aB,aH,y)) else (bif decide (n=some 96) then ((nJ N g0 aJ aB aH x1).bind fun y=>some (y.1,aB,aH,y.2)) else (bif decide (n=some 97) then ((mD N g0 aJ aB aH x1).bind fun y=>some (y.1,aB,aH,y.2)) else (bif decide (n=some 98) then ((sF N g0 aJ aB aH x1).bind fun y=>some (y.1,aB,aH,y.2)) else (bif decide (n=some 99) then ((lN N g0 aJ aB aH x1).bind fun y=>some (y.1,aB,aH,y.2)) else (bif decide (n=some 100) then ((tH N g0 aJ aB aH x1).bind fun y=>some (y.1,aB,aH,y.2)) else (bif decide (n=some 101) then ((qm N g0 aJ aB aH x1).bind fun y=>some (aJ,y.1,aH,y.2)) else (bif decide (n=some 102) then ((oH N g0 aJ aB aH x1).bind fun y=>some (aJ,aB,y.1,y.2)) else (bif decide (n=some 103) then ((oI N g0 aJ aB aH x1).bind fun y=>some (aJ,aB,y.1,y.2)) else (bif decide (n=some 104) then ((oJ N g0 aJ aB aH x1).bind fun y=>some (y.1,aB,aH,y.2)) else (bif decide (n=some 105) then ((nX N g0 aJ aB aH x1).bind fun y=>some (y.1,aB,aH,y.2)) else (none)))))))))))
def jO (N:Nat) (g0:ah) (aJ:(List (Str×af))) (aB:(List (Str×aj))) (aH:(List (Str×Str))) (x1:aU):Option (ah×(List (Str×af))×(List (Str×aj))×(List (Str×Str))×(List Str)×Int) :=
  (vU N).bind fun v1=>(bif (!((aS .lss x1.Op 0)||(aS .geq x1.Op (List.length v1:Int)))) then (vG N x1.At) else some false).bind fun v2=>bif (((aS .lss x1.Op 0)||(aS .geq x1.Op (List.length v1:Int)))||(!v2)) then (some (g0,aJ,aB,aH,[],2)) else (bif (aS .lss x1.At g0.now) then (some (g0,aJ,aB,aH,[],10)) else ((jP N ({ g0 with now:=x1.At }:ah) aJ aB aH).bind fun v3=>(idx v1 x1.Op).bind fun v4=>((bif (!(List.isEmpty v4.states)) then ((jT N (({ g0 with now:=x1.At }:ah).plan) x1.Name).bind fun v5=>bif (!v5.2) then (some (Sum.inr ([],6))) else ((dU N ({ g0 with now:=x1.At }:ah) v3 aB aH x1.Name v4.states).bind fun v6=>bif (!v6) then (some (Sum.inr ([],18))) else (some (Sum.inl ())))) else (some (Sum.inl ()))):Option (Unit ⊕ ((List Str)×Int))).bind fun Tv=>Sum.elim (fun l12=>(Dl N ({ g0 with now:=x1.At }:ah) v3 aB aH v4.Nh x1).bind fun v14=>bif (aS .neq v14.2.2.2.e 0) then (some (({ g0 with now:=x1.At }:ah),v14.1,v14.2.1,v14.2.2.1,v14.2.2.2.names,v14.2.2.2.e)) else ((jP N ({ g0 with now:=x1.At }:ah) v14.1 v14.2.1 v14.2.2.1).bind fun v15=>(app (({ g0 with now:=x1.At }:ah).done) [x1]).bind fun v16=>some (({ ({ g0 with now:=x1.At }:ah) with done:=v16 }:ah),v15,v14.2.1,v14.2.2.1,[],0))) (fun r13=>some (({ g0 with now:=x1.At }:ah),v3,aB,aH,r13.1,r13.2)) Tv))
def lH (N:Nat) (x0:aA):Option (Bool) :=
  some true
def mY (N:Nat) (g0:ah) (aJ:(List (Str×af))) (aB:(List (Str×aj))) (aH:(List (Str×Str))):Option (List Str) :=
  (iy N g0 aJ aB aH (fun y0=>lH N y0)).bind fun v1=>some v1
def sG (N:Nat) (x0:(List Str)) (x1:(List Str)) (s1:Int):Option (Int ⊕ (Unit ⊕ Bool)) :=
  bif (aS .lss s1 (List.length x0:Int)) then ((idx x0 s1).bind fun v2=>(idx x1 s1).bind fun v3=>bif (Bq .neq v2 v3) then (some (.inr (Sum.inr false))) else (some (.inl (IntKind.i64.wrap (s1+1))))) else (some (.inr (Sum.inl ())))
def wJ (N:Nat) (x0:(List Str)) (x1:(List Str)):Option (Bool) :=
  bif (aS .neq (List.length x0:Int) (List.length x1:Int)) then (some false) else ((bW (sG N x0 x1) N 0).bind fun o6=>Sum.elim (fun l8=>some true) (fun r9=>some r9) o6)
def oK (N:Nat) (g0:ah) (aJ:(List (Str×af))) (aB:(List (Str×aj))) (aH:(List (Str×Str))) (x1:Str):Option (Int×Int) :=
  bif (!(mP aJ x1)) then (some (0,6)) else (some ((iw (⟨0,[],0⟩:af) aJ x1).state,0))
def mZ (N:Nat) (x0:GPermitPlan) (x1:(List Str)) (s2:((List aA)×Int)):Option (((List aA)×Int) ⊕ ((List aA) ⊕ (Bool×Int))) :=
  bif (aS .lss s2.2 (List.length x1:Int)) then ((idx x1 s2.2).bind fun v3=>(jT N x0 v3).bind fun v4=>bif (!v4.2) then (some (.inr (Sum.inr (false,6)))) else ((Qn x1 0 s2.2).bind fun v5=>(eY N v5 v3).bind fun v6=>bif v6 then (some (.inr (Sum.inr (false,5)))) else ((app s2.1 [v4.1]).bind fun v7=>some (.inl (v7,(IntKind.i64.wrap (s2.2+1))))))) else (some (.inr (Sum.inl s2.1)))
def qR (N:Nat) (x0:GPermitPlan) (x1:(List Str)):Option (Bool×Int) :=
  (mV N x0).bind fun v1=>bif (aS .neq v1 0) then (some (false,v1)) else ((bW (mZ N x0 x1) N ([],0)).bind fun Yx=>Sum.elim (fun l13=>(qO N x0 l13).bind fun v15=>some (v15,0)) (fun r14=>some (r14.1,r14.2)) Yx)
def jq (N:Nat) (o7:GPermitPlan) (v11:(List Str)) (Ez:(Int×ah×(List (Str×af))×(List (Str×aj))×(List (Str×Str)))) (yF:(Int×ah×(List (Str×af))×(List (Str×aj))×(List (Str×Str)))):Option ((Int×ah×(List (Str×af))×(List (Str×aj))×(List (Str×Str))) ⊕ ((ah×(List (Str×af))×(List (Str×aj))×(List (Str×Str))) ⊕ (Bool×ah×(List (Str×af))×(List (Str×aj))×(List (Str×Str))))) :=
  bif (aS .lss yF.1 (List.length v11:Int)) then ((idx v11 yF.1).bind fun v39=>(qJ N o7 v39).bind fun v40=>(bif (!(aS .lss v40 0)) then (idx o7.ai v40) else some (⟨[],0,[],0,0,[]⟩:aA)).bind fun v41=>bif ((aS .lss v40 0)||(!((aS .eql v41.Kind 5) == (aS .eql Ez.1 0)))) then (bif (aS .lss v40 0) then (some (.inr (Sum.inr (false,yF.2.1,yF.2.2.1,yF.2.2.2.1,yF.2.2.2.2)))) else (some (.inl ((IntKind.i64.wrap (yF.1+1)),yF.2.1,yF.2.2.1,yF.2.2.2.1,yF.2.2.2.2)))) else ((idx v11 yF.1).bind fun v43=>(jO N yF.2.1 yF.2.2.1 yF.2.2.2.1 yF.2.2.2.2 (⟨0,2,v43,[],([98,111,98]:Str),0,0,0⟩:aU)).bind fun v44=>bif (aS .neq v44.2.2.2.2.2 0) then (some (.inr (Sum.inr (false,v44.1,v44.2.1,v44.2.2.1,v44.2.2.2.1)))) else (some (.inl ((IntKind.i64.wrap (yF.1+1)),v44.1,v44.2.1,v44.2.2.1,v44.2.2.2.1))))) else (some (.inr (Sum.inl (yF.2.1,yF.2.2.1,yF.2.2.2.1,yF.2.2.2.2))))
def kY (N:Nat) (o7:GPermitPlan) (v11:(List Str)) (xW:(Int×ah×(List (Str×af))×(List (Str×aj))×(List (Str×Str)))):Option ((Int×ah×(List (Str×af))×(List (Str×aj))×(List (Str×Str))) ⊕ ((ah×(List (Str×af))×(List (Str×aj))×(List (Str×Str))) ⊕ (Bool×ah×(List (Str×af))×(List (Str×aj))×(List (Str×Str))))) :=
  bif (aS .lss xW.1 (List.length o7.ai:Int)) then ((idx o7.ai xW.1).bind fun v61=>(oK N xW.2.1 xW.2.2.1 xW.2.2.2.1 xW.2.2.2.2 v61.Name).bind fun v62=>bif ((aS .neq v62.2 0)||(aS .eql v62.1 2)) then (some (.inl ((IntKind.i64.wrap (xW.1+1)),xW.2.1,xW.2.2.1,xW.2.2.2.1,xW.2.2.2.2))) else ((app ([]:(List Str)) v11).bind fun v63=>(idx o7.ai xW.1).bind fun v64=>(app v63 [v64.Name]).bind fun v65=>(qR N o7 v65).bind fun v66=>(idx o7.ai xW.1).bind fun v67=>(jO N xW.2.1 xW.2.2.1 xW.2.2.2.1 xW.2.2.2.2 (⟨0,2,v67.Name,[],([98,111,98]:Str),0,0,0⟩:aU)).bind fun v68=>bif ((aS .neq v66.2 0)||(!(v66.1 == (aS .eql v68.2.2.2.2.2 0)))) then (some (.inr (Sum.inr (false,v68.1,v68.2.1,v68.2.2.1,v68.2.2.2.1)))) else (bif (aS .eql v68.2.2.2.2.2 0) then ((idx o7.ai xW.1).bind fun v69=>(jO N v68.1 v68.2.1 v68.2.2.1 v68.2.2.2.1 (⟨0,3,v69.Name,[],[],0,0,0⟩:aU)).bind fun v70=>bif (aS .neq v70.2.2.2.2.2 0) then (some (.inr (Sum.inr (false,v70.1,v70.2.1,v70.2.2.1,v70.2.2.2.1)))) else (some (.inl ((IntKind.i64.wrap (xW.1+1)),v70.1,v70.2.1,v70.2.2.1,v70.2.2.2.1)))) else (some (.inl ((IntKind.i64.wrap (xW.1+1)),v68.1,v68.2.1,v68.2.2.1,v68.2.2.2.1)))))) else (some (.inr (Sum.inl (xW.2.1,xW.2.2.1,xW.2.2.2.1,xW.2.2.2.2))))
def gJ (N:Nat) (o7:GPermitPlan) (v11:(List Str)) (Ez:(Int×ah×(List (Str×af))×(List (Str×aj))×(List (Str×Str)))):Option ((Int×ah×(List (Str×af))×(List (Str×aj))×(List (Str×Str))) ⊕ ((ah×(List (Str×af))×(List (Str×aj))×(List (Str×Str))) ⊕ (Bool×ah×(List (Str×af))×(List (Str×aj))×(List (Str×Str))))) :=
  bif (aS .lss Ez.1 2) then ((bW (jq N o7 v11 Ez) N (0,Ez.2.1,Ez.2.2.1,Ez.2.2.2.1,Ez.2.2.2.2)).bind fun o48=>Sum.elim (fun Yr=>some (.inl ((IntKind.i64.wrap (Ez.1+1)),Yr.1,Yr.2.1,Yr.2.2.1,Yr.2.2.2))) (fun r51=>some (.inr (Sum.inr (r51.1,r51.2.1,r51.2.2.1,r51.2.2.2.1,r51.2.2.2.2)))) o48) else (some (.inr (Sum.inl (Ez.2.1,Ez.2.2.1,Ez.2.2.2.1,Ez.2.2.2.2))))
def kX (N:Nat) (o7:GPermitPlan) (Ey:(Int×ah×(List (Str×af))×(List (Str×aj))×(List (Str×Str)))):Option ((Int×ah×(List (Str×af))×(List (Str×aj))×(List (Str×Str))) ⊕ ((ah×(List (Str×af))×(List (Str×aj))×(List (Str×Str))) ⊕ (Bool×ah×(List (Str×af))×(List (Str×aj))×(List (Str×Str))))) :=
  bif (aS .lss Ey.1 (List.length o7.ai:Int)) then ((idx o7.ai Ey.1).bind fun v29=>(jO N Ey.2.1 Ey.2.2.1 Ey.2.2.2.1 Ey.2.2.2.2 (⟨0,1,v29.Name,[],([97,110,110]:Str),0,0,0⟩:aU)).bind fun v30=>bif (aS .neq v30.2.2.2.2.2 0) then (some (.inr (Sum.inr (false,v30.1,v30.2.1,v30.2.2.1,v30.2.2.2.1)))) else (some (.inl ((IntKind.i64.wrap (Ey.1+1)),v30.1,v30.2.1,v30.2.2.1,v30.2.2.2.1)))) else (some (.inr (Sum.inl (Ey.2.1,Ey.2.2.1,Ey.2.2.2.1,Ey.2.2.2.2))))
def kW (N:Nat) (o7:GPermitPlan) (Jl:(Int×ah×(List (Str×af))×(List (Str×aj))×(List (Str×Str)))):Option ((Int×ah×(List (Str×af))×(List (Str×aj))×(List (Str×Str))) ⊕ ((ah×(List (Str×af))×(List (Str×aj))×(List (Str×Str))) ⊕ (Bool×ah×(List (Str×af))×(List (Str×aj))×(List (Str×Str))))) :=
  bif (aS .lss Jl.1 (List.length o7.bF:Int)) then ((idx o7.bF Jl.1).bind fun v20=>(jO N Jl.2.1 Jl.2.2.1 Jl.2.2.2.1 Jl.2.2.2.2 (⟨0,7,[],v20.Name,[],209,0,0⟩:aU)).bind fun v21=>bif (aS .neq v21.2.2.2.2.2 0) then (some (.inr (Sum.inr (false,v21.1,v21.2.1,v21.2.2.1,v21.2.2.2.1)))) else (some (.inl ((IntKind.i64.wrap (Jl.1+1)),v21.1,v21.2.1,v21.2.2.1,v21.2.2.2.1)))) else (some (.inr (Sum.inl (Jl.2.1,Jl.2.2.1,Jl.2.2.2.1,Jl.2.2.2.2))))
def kU (N:Nat) (x0:GPermitPlan) (s3:(GPermitPlan×Int)):Option ((GPermitPlan×Int) ⊕ GPermitPlan) :=
  bif (aS .lss s3.2 (List.length x0.ai:Int)) then ((idx x0.ai s3.2).bind fun v4=>(app s3.1.ai [({ ({ v4 with From:=0 }:aA) with To:=100 }:aA)]).bind fun v5=>some (.inl (({ s3.1 with ai:=v5 }:GPermitPlan),(IntKind.i64.wrap (s3.2+1))))) else (some (.inr s3.1))
def sK (N:Nat) (x0:GPermitPlan) (x1:Int):Option (Bool) :=
  (BJ N x0).bind fun v1=>bif ((!v1)||(aS .gtr (List.length x0.ai:Int) 5)) then ((zi N).bind fun v2=>some v2) else ((bW (kU N x0) N (({ x0 with ai:=([]:(List aA)) }:GPermitPlan),0)).bind fun o7=>(rM N o7).bind fun v9=>bif ((aS .neq v9.2 0)||(aS .eql (List.length v9.1:Int) 0)) then (some false) else ((AL N x1 (List.length v9.1:Int)).bind fun v10=>(idx v9.1 v10).bind fun v11=>(uH N o7).bind fun v12=>Ou v12 (fun VO=>some false) (fun rH VO=>bif (false||(aS .neq VO 0)) then (some false) else ((bW (kW N o7) N (0,rH.1,rH.2.1,rH.2.2.1,rH.2.2.2)).bind fun Tt=>Sum.elim (fun PD=>(bW (kX N o7) N (0,PD.1,PD.2.1,PD.2.2.1,PD.2.2.2)).bind fun Yq=>Sum.elim (fun Ri=>(bW (gJ N o7 v11) N (0,Ri.1,Ri.2.1,Ri.2.2.1,Ri.2.2.2)).bind fun o54=>Sum.elim (fun GR=>(mY N GR.1 GR.2.1 GR.2.2.1 GR.2.2.2).bind fun v58=>(wJ N v58 v11).bind fun v59=>bif (!v59) then (some false) else ((bW (kY N o7 v11) N (0,GR.1,GR.2.1,GR.2.2.1,GR.2.2.2)).bind fun o76=>Sum.elim (fun UB=>(mY N UB.1 UB.2.1 UB.2.2.1 UB.2.2.2).bind fun v80=>(wJ N v80 v11).bind fun v81=>(bif v81 then (zi N) else some false).bind fun v82=>some (v81&&v82)) (fun r79=>some r79.1) o76)) (fun r57=>some r57.1) o54) (fun r36=>some r36.1) Yq) (fun r27=>some r27.1) Tt))))
end
end Go.KB
