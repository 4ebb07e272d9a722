/- The functions as plain Lean functions. Printed by a program. No condition. -/
import Derived.Test.YtekbfkfjhgfieaaGreatGTypes
import Derived.Test.YtekbfkfjhgfieaaGreatKSos
namespace Go.KB
set_option linter.unusedVariables false
noncomputable section
def jYx (N : Nat) (x0 : GPermitPlan) (s10 : Int) : Option (Int ⊕ (Unit ⊕ Bool)) :=
  bif (jJy .lss s10 (List.length x0.Permits : Int)) then ((idx x0.Permits s10).bind fun v11 => (bif (!(jJy .gtr (List.length v11.Locks : Int) 20)) then (idx x0.Permits s10) else some (⟨[], 0, [], 0, 0, []⟩ : jJg)).bind fun v12 => bif ((jJy .gtr (List.length v11.Locks : Int) 20) || (jJy .gtr (List.length v12.Name : Int) 40)) then (some (.inr (Sum.inr true))) else (some (.inl (IntKind.i64.wrap (s10 + 1))))) else (some (.inr (Sum.inl ())))
def jYz (N : Nat) (x0 : GPermitPlan) (s1 : Int) : Option (Int ⊕ (Unit ⊕ Bool)) :=
  bif (jJy .lss s1 (List.length x0.Spaces : Int)) then ((idx x0.Spaces s1).bind fun v2 => (bif (!(jJy .gtr (List.length v2.Next : Int) 40)) then (idx x0.Spaces s1) else some (⟨[], false, []⟩ : jJ4)).bind fun v3 => bif ((jJy .gtr (List.length v2.Next : Int) 40) || (jJy .gtr (List.length v3.Name : Int) 40)) then (some (.inr (Sum.inr true))) else (some (.inl (IntKind.i64.wrap (s1 + 1))))) else (some (.inr (Sum.inl ())))
def jGh (N : Nat) (x0 : GPermitPlan) : Option (Bool) :=
  bif (((jJy .gtr (List.length x0.Spaces : Int) 40) || (jJy .gtr (List.length x0.Exclusions : Int) 40)) || (jJy .gtr (List.length x0.Permits : Int) 30)) then (some true) else ((jXm (jYz N x0) N 0).bind fun o6 => Sum.elim (fun l8 => (jXm (jYx N x0) N 0).bind fun o15 => Sum.elim (fun l17 => some false) (fun r18 => some r18) o15) (fun r9 => some r9) o6)
def jBq (N : Nat) (x0 : Str) (s1 : Int) : Option (Int ⊕ (Unit ⊕ Bool)) :=
  bif (jJy .lss s1 (List.length x0 : Int)) then ((idx x0 s1).bind fun v2 => bif ((!(((jJy .geq ((UInt8.toNat v2 : Nat) : Int) 97) && (jJy .leq ((UInt8.toNat v2 : Nat) : Int) 122)) || ((jJy .geq ((UInt8.toNat v2 : Nat) : Int) 65) && (jJy .leq ((UInt8.toNat v2 : Nat) : Int) 90)))) && ((jJy .eql s1 0) || ((jJy .neq ((UInt8.toNat v2 : Nat) : Int) 45) && ((jJy .lss ((UInt8.toNat v2 : Nat) : Int) 48) || (jJy .gtr ((UInt8.toNat v2 : Nat) : Int) 57))))) then (some (.inr (Sum.inr false))) else (some (.inl (IntKind.i64.wrap (s1 + 1))))) else (some (.inr (Sum.inl ())))
def jG8 (N : Nat) (x0 : Str) : Option (Bool) :=
  bif ((jJy .lss (List.length x0 : Int) 1) || (jJy .gtr (List.length x0 : Int) 12)) then (some false) else ((jXm (jBq N x0) N 0).bind fun o5 => Sum.elim (fun l7 => some true) (fun r8 => some r8) o5)
def jUl (N : Nat) (x0 : GPermitPlan) (x1 : Str) (s1 : Int) : Option (Int ⊕ (Unit ⊕ Int)) :=
  bif (jJy .lss s1 (List.length x0.Spaces : Int)) then ((idx x0.Spaces s1).bind fun v2 => bif (jKe .eql v2.Name x1) then (some (.inr (Sum.inr s1))) else (some (.inl (IntKind.i64.wrap (s1 + 1))))) else (some (.inr (Sum.inl ())))
def jUy (N : Nat) (x0 : GPermitPlan) (x1 : Str) : Option (Int) :=
  (jXm (jUl N x0 x1) N 0).bind fun o5 => Sum.elim (fun l7 => some (-1)) (fun r8 => some r8) o5
def jUs (N : Nat) (x0 : GPermitPlan) (x1 : Int) (x2 : Str) : Option (Bool) :=
  (jUy N x0 x2).bind fun v1 => some ((jJy .geq v1 0) && (jJy .lss v1 x1))
def jWq (N : Nat) (x0 : GPermitPlan) (s15 : Int) (s16 : Int) : Option (Int ⊕ (Unit ⊕ Int)) :=
  (idx x0.Spaces s15).bind fun v17 => bif (jJy .lss s16 (List.length v17.Next : Int)) then ((idx x0.Spaces s15).bind fun v18 => (idx v18.Next s16).bind fun v19 => (jUy N x0 v19).bind fun v20 => bif (jJy .lss v20 0) then (some (.inr (Sum.inr 6))) else ((idx x0.Spaces s15).bind fun v21 => (idx v21.Next s16).bind fun v22 => (idx x0.Spaces s15).bind fun v23 => bif (jKe .eql v22 v23.Name) then (some (.inr (Sum.inr 3))) else (some (.inl (IntKind.i64.wrap (s16 + 1)))))) else (some (.inr (Sum.inl ())))
def jWz (N : Nat) (x0 : GPermitPlan) (s15 : Int) : Option (Int ⊕ (Unit ⊕ Int)) :=
  bif (jJy .lss s15 (List.length x0.Spaces : Int)) then ((jXm (jWq N x0 s15) N 0).bind fun o27 => Sum.elim (fun l29 => some (.inl (IntKind.i64.wrap (s15 + 1)))) (fun r30 => some (.inr (Sum.inr r30))) o27) else (some (.inr (Sum.inl ())))
def jWx (N : Nat) (x0 : GPermitPlan) (s1 : Int) : Option (Int ⊕ (Unit ⊕ Int)) :=
  bif (jJy .lss s1 (List.length x0.Spaces : Int)) then ((idx x0.Spaces s1).bind fun v2 => (jG8 N v2.Name).bind fun v3 => bif (!v3) then (some (.inr (Sum.inr 4))) else ((idx x0.Spaces s1).bind fun v4 => (jUs N x0 s1 v4.Name).bind fun v5 => bif v5 then (some (.inr (Sum.inr 5))) else ((idx x0.Spaces s1).bind fun v6 => bif (jJy .gtr (List.length v6.Next : Int) 30) then (some (.inr (Sum.inr 8))) else (some (.inl (IntKind.i64.wrap (s1 + 1))))))) else (some (.inr (Sum.inl ())))
def jKw (N : Nat) (x0 : GPermitPlan) : Option (Int) :=
  (jXm (jWx N x0) N 0).bind fun o11 => Sum.elim (fun l13 => (jXm (jWz N x0) N 0).bind fun o33 => Sum.elim (fun l35 => some 0) (fun r36 => some r36) o33) (fun r14 => some r14) o11
def jG7 (N : Nat) (x0 : Int) : Option (Bool) :=
  some ((jJy .geq x0 0) && (jJy .leq x0 5))
def jUj (N : Nat) (x0 : GPermitPlan) (x1 : Str) (s1 : Int) : Option (Int ⊕ (Unit ⊕ Int)) :=
  bif (jJy .lss s1 (List.length x0.Permits : Int)) then ((idx x0.Permits s1).bind fun v2 => bif (jKe .eql v2.Name x1) then (some (.inr (Sum.inr s1))) else (some (.inl (IntKind.i64.wrap (s1 + 1))))) else (some (.inr (Sum.inl ())))
def jUr (N : Nat) (x0 : GPermitPlan) (x1 : Str) : Option (Int) :=
  (jXm (jUj N x0 x1) N 0).bind fun o5 => Sum.elim (fun l7 => some (-1)) (fun r8 => some r8) o5
def jYj (N : Nat) (x0 : GPermitPlan) (v29 : jJg) (s30 : Int) : Option (Int ⊕ (Unit ⊕ Int)) :=
  bif (jJy .lss s30 (List.length v29.Locks : Int)) then ((idx v29.Locks s30).bind fun v31 => (jUr N x0 v31).bind fun v32 => bif (jJy .lss v32 0) then (some (.inr (Sum.inr 6))) else ((idx x0.Permits v32).bind fun v33 => bif ((jJy .neq v33.Kind 5) || (jJy .eql v29.Kind 5)) then (some (.inr (Sum.inr 3))) else (some (.inl (IntKind.i64.wrap (s30 + 1)))))) else (some (.inr (Sum.inl ())))
def jW9 (N : Nat) (x0 : GPermitPlan) (s28 : Int) : Option (Int ⊕ (Unit ⊕ Int)) :=
  bif (jJy .lss s28 (List.length x0.Permits : Int)) then ((idx x0.Permits s28).bind fun v29 => (jXm (jYj N x0 v29) N 0).bind fun o37 => Sum.elim (fun l39 => some (.inl (IntKind.i64.wrap (s28 + 1)))) (fun r40 => some (.inr (Sum.inr r40))) o37) else (some (.inr (Sum.inl ())))
def jW8 (N : Nat) (x0 : GPermitPlan) (s12 : Int) : Option (Int ⊕ (Unit ⊕ Int)) :=
  bif (jJy .lss s12 (List.length x0.Permits : Int)) then ((idx x0.Permits s12).bind fun v13 => (jG8 N v13.Name).bind fun v14 => bif (!v14) then (some (.inr (Sum.inr 4))) else ((jUr N x0 v13.Name).bind fun v15 => bif (jJy .lss v15 s12) then (some (.inr (Sum.inr 5))) else ((jG7 N v13.Kind).bind fun v16 => bif ((((!v16) || (jJy .lss v13.From 0)) || (jJy .geq v13.From v13.To)) || (jJy .gtr v13.To 1000000)) then (some (.inr (Sum.inr 2))) else ((jUy N x0 v13.Space).bind fun v17 => bif (jJy .lss v17 0) then (some (.inr (Sum.inr 6))) else (bif (jJy .gtr (List.length v13.Locks : Int) 10) then (some (.inr (Sum.inr 8))) else (some (.inl (IntKind.i64.wrap (s12 + 1))))))))) else (some (.inr (Sum.inl ())))
def jKa (N : Nat) (x0 : GPermitPlan) (s2 : Int) : Option (Int ⊕ (Unit ⊕ Int)) :=
  bif (jJy .lss s2 (List.length x0.Exclusions : Int)) then ((idx x0.Exclusions s2).bind fun v3 => (jG7 N v3.A).bind fun v4 => (bif (!(!v4)) then (jG7 N v3.B) else some false).bind fun v5 => bif ((((!v4) || (!v5)) || (jJy .lss v3.Reach 0)) || (jJy .gtr v3.Reach 2)) then (some (.inr (Sum.inr 2))) else (some (.inl (IntKind.i64.wrap (s2 + 1))))) else (some (.inr (Sum.inl ())))
def jUx (N : Nat) (x0 : GPermitPlan) : Option (Int) :=
  bif (((jJy .gtr (List.length x0.Spaces : Int) 30) || (jJy .gtr (List.length x0.Exclusions : Int) 30)) || (jJy .gtr (List.length x0.Permits : Int) 20)) then (some 8) else (bif ((jJy .lss x0.GasMinutes 1) || (jJy .gtr x0.GasMinutes 10000)) then (some 2) else ((jKw N x0).bind fun v1 => bif (jJy .neq v1 0) then (some v1) else ((jXm (jKa N x0) N 0).bind fun o8 => Sum.elim (fun l10 => (jXm (jW8 N x0) N 0).bind fun o24 => Sum.elim (fun l26 => (jXm (jW9 N x0) N 0).bind fun o43 => Sum.elim (fun l45 => some 0) (fun r46 => some r46) o43) (fun r27 => some r27) o24) (fun r11 => some r11) o8)))
def jHf (N : Nat) (x0 : GPermitPlan) : Option (Bool) :=
  (jGh N x0).bind fun v1 => (bif (!v1) then (jUx N x0) else some 0).bind fun v2 => some (((((!v1) && (jJy .eql v2 0)) && (jJy .leq (List.length x0.Spaces : Int) 8)) && (jJy .leq (List.length x0.Permits : Int) 8)) && (jJy .leq (List.length x0.Exclusions : Int) 12))
def jBv (N : Nat) : Option ((List jJs)) :=
  some [(⟨0, 2, 1⟩ : jJs), (⟨3, 0, 1⟩ : jJs), (⟨3, 1, 1⟩ : jJs), (⟨3, 2, 1⟩ : jJs), (⟨3, 3, 1⟩ : jJs), (⟨4, 4, 0⟩ : jJs)]
def jBa (N : Nat) : Option (GPermitPlan) :=
  (jBv N).bind fun v1 => some (⟨[(⟨([100, 101, 99, 107] : Str), false, [([116, 97, 110, 107] : Str)]⟩ : jJ4), (⟨([116, 97, 110, 107] : Str), true, []⟩ : jJ4), (⟨([104, 111, 108, 100] : Str), true, [([116, 97, 110, 107] : Str)]⟩ : jJ4)], v1, [(⟨([119, 101, 108, 100] : Str), 0, ([100, 101, 99, 107] : Str), 0, 600, []⟩ : jJg), (⟨([103, 111] : Str), 1, ([116, 97, 110, 107] : Str), 0, 600, [([112, 117, 109, 112] : Str)]⟩ : jJg), (⟨([112, 97, 105, 110, 116] : Str), 2, ([104, 111, 108, 100] : Str), 0, 600, []⟩ : jJg), (⟨([112, 117, 109, 112] : Str), 5, ([116, 97, 110, 107] : Str), 0, 600, []⟩ : jJg)], 60⟩ : GPermitPlan)
def jGj (N : Nat) (x0 : Int) : Option (Bool) :=
  some (((jJy .geq x0 97) && (jJy .leq x0 122)) || ((jJy .geq x0 65) && (jJy .leq x0 90)))
def jY4 (N : Nat) (x0 : Str) (s3 : Int) : Option (Int ⊕ (Unit ⊕ Bool)) :=
  bif (jJy .lss s3 (List.length x0 : Int)) then ((idx x0 s3).bind fun v4 => (jGj N ((UInt8.toNat v4 : Nat) : Int)).bind fun v5 => bif (((!v5) && (jJy .neq ((UInt8.toNat v4 : Nat) : Int) 45)) && ((jJy .lss ((UInt8.toNat v4 : Nat) : Int) 48) || (jJy .gtr ((UInt8.toNat v4 : Nat) : Int) 57))) then (some (.inr (Sum.inr false))) else (some (.inl (IntKind.i64.wrap (s3 + 1))))) else (some (.inr (Sum.inl ())))
def jW7 (N : Nat) (x0 : Str) : Option (Bool) :=
  (bif (!((jJy .lss (List.length x0 : Int) 1) || (jJy .gtr (List.length x0 : Int) 12))) then (idx x0 0) else some 0).bind fun v1 => (bif (!((jJy .lss (List.length x0 : Int) 1) || (jJy .gtr (List.length x0 : Int) 12))) then (jGj N ((UInt8.toNat v1 : Nat) : Int)) else some false).bind fun v2 => bif (((jJy .lss (List.length x0 : Int) 1) || (jJy .gtr (List.length x0 : Int) 12)) || (!v2)) then (some false) else ((jXm (jY4 N x0) N 0).bind fun o8 => Sum.elim (fun l10 => some true) (fun r11 => some r11) o8)
def jV7 (N : Nat) (l10 : (List (Str × Bool))) (v13 : jJ4) (s14 : Int) : Option (Int ⊕ (Unit ⊕ Int)) :=
  bif (jJy .lss s14 (List.length v13.Next : Int)) then ((idx v13.Next s14).bind fun v15 => bif (!(jX4 false l10 v15)) then (some (.inr (Sum.inr 6))) else (bif (jKe .eql v15 v13.Name) then (some (.inr (Sum.inr 3))) else (some (.inl (IntKind.i64.wrap (s14 + 1)))))) else (some (.inr (Sum.inl ())))
def jV5 (N : Nat) (x0 : GPermitPlan) (l10 : (List (Str × Bool))) (s12 : Int) : Option (Int ⊕ (Unit ⊕ Int)) :=
  bif (jJy .lss s12 (List.length x0.Spaces : Int)) then ((idx x0.Spaces s12).bind fun v13 => (jXm (jV7 N l10 v13) N 0).bind fun o19 => Sum.elim (fun l21 => some (.inl (IntKind.i64.wrap (s12 + 1)))) (fun r22 => some (.inr (Sum.inr r22))) o19) else (some (.inr (Sum.inl ())))
def jV6 (N : Nat) (x0 : GPermitPlan) (s1 : ((List (Str × Bool)) × Int)) : Option (((List (Str × Bool)) × Int) ⊕ ((List (Str × Bool)) ⊕ Int)) :=
  bif (jJy .lss s1.2 (List.length x0.Spaces : Int)) then ((idx x0.Spaces s1.2).bind fun v2 => (jW7 N v2.Name).bind fun v3 => bif (!v3) then (some (.inr (Sum.inr 4))) else (bif (jX4 false s1.1 v2.Name) then (some (.inr (Sum.inr 5))) else (bif (jJy .gtr (List.length v2.Next : Int) 30) then (some (.inr (Sum.inr 8))) else (some (.inl ((jG5 s1.1 v2.Name true), (IntKind.i64.wrap (s1.2 + 1)))))))) else (some (.inr (Sum.inl s1.1)))
def jY9 (N : Nat) (x0 : GPermitPlan) : Option (Int) :=
  (jXm (jV6 N x0) N (([] : (List (Str × Bool))), 0)).bind fun o8 => Sum.elim (fun l10 => (jXm (jV5 N x0 l10) N 0).bind fun o25 => Sum.elim (fun l27 => some 0) (fun r28 => some r28) o25) (fun r11 => some r11) o8
def jGd (N : Nat) (x0 : Int) : Option (Bool) :=
  some ((jJy .geq x0 0) && (jJy .leq x0 5))
def jY2 (N : Nat) (x0 : jJ4) (c0 : Str) : Option (Bool) :=
  some (jKe .eql x0.Name c0)
def jX7 (N : Nat) (x0 : (List jJ4)) (x1 : (jJ4 → Option Bool)) (s1 : Int) : Option (Int ⊕ (Unit ⊕ Int)) :=
  bif (jJy .lss s1 (List.length x0 : Int)) then ((idx x0 s1).bind fun v2 => (x1 v2).bind fun v3 => bif v3 then (some (.inr (Sum.inr s1))) else (some (.inl (IntKind.i64.wrap (s1 + 1))))) else (some (.inr (Sum.inl ())))
def jZz (N : Nat) (x0 : (List jJ4)) (x1 : (jJ4 → Option Bool)) : Option (Int) :=
  (jXm (jX7 N x0 x1) N 0).bind fun o6 => Sum.elim (fun l8 => some (-1)) (fun r9 => some r9) o6
def jXr (N : Nat) (x0 : GPermitPlan) (x1 : Str) : Option (jJ4 × Bool) :=
  (jZz N x0.Spaces (fun y0 => jY2 N y0 x1)).bind fun v1 => bif (jJy .lss v1 0) then (some ((⟨[], false, []⟩ : jJ4), false)) else ((idx x0.Spaces v1).bind fun v2 => some (v2, true))
def jYm (N : Nat) (x0 : jJg) (c0 : Str) : Option (Bool) :=
  some (jKe .eql x0.Name c0)
def jXl (N : Nat) (x0 : (List jJg)) (x1 : (jJg → Option Bool)) (s1 : Int) : Option (Int ⊕ (Unit ⊕ Int)) :=
  bif (jJy .lss s1 (List.length x0 : Int)) then ((idx x0 s1).bind fun v2 => (x1 v2).bind fun v3 => bif v3 then (some (.inr (Sum.inr s1))) else (some (.inl (IntKind.i64.wrap (s1 + 1))))) else (some (.inr (Sum.inl ())))
def jX8 (N : Nat) (x0 : (List jJg)) (x1 : (jJg → Option Bool)) : Option (Int) :=
  (jXm (jXl N x0 x1) N 0).bind fun o6 => Sum.elim (fun l8 => some (-1)) (fun r9 => some r9) o6
def jV3 (N : Nat) (x0 : GPermitPlan) (x1 : Str) : Option (jJg × Bool) :=
  (jX8 N x0.Permits (fun y0 => jYm N y0 x1)).bind fun v1 => bif (jJy .lss v1 0) then (some ((⟨[], 0, [], 0, 0, []⟩ : jJg), false)) else ((idx x0.Permits v1).bind fun v2 => some (v2, true))
def jVp (N : Nat) (x0 : GPermitPlan) (v17 : jJg) (s18 : Int) : Option (Int ⊕ (Unit ⊕ Int)) :=
  bif (jJy .lss s18 (List.length v17.Locks : Int)) then ((idx v17.Locks s18).bind fun v19 => (jV3 N x0 v19).bind fun v20 => bif (!v20.2) then (some (.inr (Sum.inr 6))) else (bif ((jJy .neq v20.1.Kind 5) || (jJy .eql v17.Kind 5)) then (some (.inr (Sum.inr 3))) else (some (.inl (IntKind.i64.wrap (s18 + 1)))))) else (some (.inr (Sum.inl ())))
def jVs (N : Nat) (x0 : GPermitPlan) (s16 : Int) : Option (Int ⊕ (Unit ⊕ Int)) :=
  bif (jJy .lss s16 (List.length x0.Permits : Int)) then ((idx x0.Permits s16).bind fun v17 => (jXm (jVp N x0 v17) N 0).bind fun o24 => Sum.elim (fun l26 => some (.inl (IntKind.i64.wrap (s16 + 1)))) (fun r27 => some (.inr (Sum.inr r27))) o24) else (some (.inr (Sum.inl ())))
def jVl (N : Nat) (x0 : GPermitPlan) (s1 : ((List (Str × Bool)) × Int)) : Option (((List (Str × Bool)) × Int) ⊕ (Unit ⊕ Int)) :=
  bif (jJy .lss s1.2 (List.length x0.Permits : Int)) then ((idx x0.Permits s1.2).bind fun v2 => (jXr N x0 v2.Space).bind fun v3 => (jW7 N v2.Name).bind fun v4 => bif (!v4) then (some (.inr (Sum.inr 4))) else (bif (jX4 false s1.1 v2.Name) then (some (.inr (Sum.inr 5))) else ((jGd N v2.Kind).bind fun v5 => bif ((((!v5) || (jJy .lss v2.From 0)) || (jJy .geq v2.From v2.To)) || (jJy .gtr v2.To 1000000)) then (some (.inr (Sum.inr 2))) else (bif (!v3.2) then (some (.inr (Sum.inr 6))) else (bif (jJy .gtr (List.length v2.Locks : Int) 10) then (some (.inr (Sum.inr 8))) else (some (.inl ((jG5 s1.1 v2.Name true), (IntKind.i64.wrap (s1.2 + 1)))))))))) else (some (.inr (Sum.inl ())))
def jYs (N : Nat) (x0 : GPermitPlan) : Option (Int) :=
  (jXm (jVl N x0) N (([] : (List (Str × Bool))), 0)).bind fun o12 => Sum.elim (fun l14 => (jXm (jVs N x0) N 0).bind fun o30 => Sum.elim (fun l32 => some 0) (fun r33 => some r33) o30) (fun r15 => some r15) o12
def jWp (N : Nat) (x0 : GPermitPlan) (s2 : Int) : Option (Int ⊕ (Unit ⊕ Int)) :=
  bif (jJy .lss s2 (List.length x0.Exclusions : Int)) then ((idx x0.Exclusions s2).bind fun v3 => (jGd N v3.A).bind fun v4 => (bif (!(!v4)) then (jGd N v3.B) else some false).bind fun v5 => bif ((((!v4) || (!v5)) || (jJy .lss v3.Reach 0)) || (jJy .gtr v3.Reach 2)) then (some (.inr (Sum.inr 2))) else (some (.inl (IntKind.i64.wrap (s2 + 1))))) else (some (.inr (Sum.inl ())))
def jY1 (N : Nat) (x0 : GPermitPlan) : Option (Int) :=
  bif (((jJy .gtr (List.length x0.Spaces : Int) 30) || (jJy .gtr (List.length x0.Exclusions : Int) 30)) || (jJy .gtr (List.length x0.Permits : Int) 20)) then (some 8) else (bif ((jJy .lss x0.GasMinutes 1) || (jJy .gtr x0.GasMinutes 10000)) then (some 2) else ((jY9 N x0).bind fun v1 => bif (jJy .neq v1 0) then (some v1) else ((jXm (jWp N x0) N 0).bind fun o8 => Sum.elim (fun l10 => (jYs N x0).bind fun v12 => some v12) (fun r11 => some r11) o8)))
def jZf (N : Nat) (x0 : (List Str)) (x1 : Str) (s1 : Int) : Option (Int ⊕ (Unit ⊕ Int)) :=
  bif (jJy .lss s1 (List.length x0 : Int)) then ((idx x0 s1).bind fun v2 => bif (jKe .eql x1 v2) then (some (.inr (Sum.inr s1))) else (some (.inl (IntKind.i64.wrap (s1 + 1))))) else (some (.inr (Sum.inl ())))
def jWt (N : Nat) (x0 : (List Str)) (x1 : Str) : Option (Int) :=
  (jXm (jZf N x0 x1) N 0).bind fun o5 => Sum.elim (fun l7 => some (-1)) (fun r8 => some r8) o5
def jQ2 (N : Nat) (x0 : (List Str)) (x1 : Str) : Option (Bool) :=
  (jWt N x0 x1).bind fun v1 => some (jJy .geq v1 0)
def jYn (N : Nat) (x0 : GPermitPlan) (x1 : Str) (x2 : Str) : Option (Int) :=
  (jXr N x0 x1).bind fun v1 => (jXr N x0 x2).bind fun v2 => bif (jKe .eql x1 x2) then (some 0) else ((jQ2 N v1.1.Next x2).bind fun v3 => (bif (!v3) then (jQ2 N v2.1.Next x1) else some false).bind fun v4 => bif (v3 || v4) then (some 1) else (some 2))
def jD4 (N : Nat) (x0 : GPermitPlan) (x1 : Str) (x2 : Str) : Option (Int × Int) :=
  (jY1 N x0).bind fun v1 => bif (jJy .neq v1 0) then (some (0, v1)) else ((jXr N x0 x1).bind fun v2 => (jXr N x0 x2).bind fun v3 => bif ((!v2.2) || (!v3.2)) then (some (0, 6)) else ((jYn N x0 x1 x2).bind fun v4 => some (v4, 0)))
def jXg (N : Nat) (x0 : (List jJ4)) : Option ((List jJ4)) :=
  (app ([] : (List jJ4)) x0).bind fun v1 => some v1
def jXs (N : Nat) (x0 : (List jJs)) : Option ((List jJs)) :=
  (app ([] : (List jJs)) x0).bind fun v1 => some v1
def jQ9 (N : Nat) (x0 : (List jJg)) : Option ((List jJg)) :=
  (app ([] : (List jJg)) x0).bind fun v1 => some v1
def jQc (N : Nat) (x0 : (List Str)) : Option ((List Str)) :=
  (app ([] : (List Str)) x0).bind fun v1 => some v1
def jW6 (N : Nat) (v3 : (List jJg)) (s14 : (Int × (List jJg))) : Option ((Int × (List jJg)) ⊕ (List jJg)) :=
  bif (jJy .lss s14.1 (List.length v3 : Int)) then ((idx s14.2 s14.1).bind fun v15 => (jQc N v15.Locks).bind fun v16 => (idx s14.2 s14.1).bind fun v17 => some (.inl ((IntKind.i64.wrap (s14.1 + 1)), (List.set s14.2 (Int.toNat s14.1) ({ v17 with Locks := v16 } : jJg))))) else (some (.inr s14.2))
def jW0 (N : Nat) (v1 : (List jJ4)) (s7 : (Int × (List jJ4))) : Option ((Int × (List jJ4)) ⊕ (List jJ4)) :=
  bif (jJy .lss s7.1 (List.length v1 : Int)) then ((idx s7.2 s7.1).bind fun v8 => (jQc N v8.Next).bind fun v9 => (idx s7.2 s7.1).bind fun v10 => some (.inl ((IntKind.i64.wrap (s7.1 + 1)), (List.set s7.2 (Int.toNat s7.1) ({ v10 with Next := v9 } : jJ4))))) else (some (.inr s7.2))
def jGy (N : Nat) (x0 : GPermitPlan) : Option (GPermitPlan) :=
  (jXg N x0.Spaces).bind fun v1 => (jXs N x0.Exclusions).bind fun v2 => (jQ9 N x0.Permits).bind fun v3 => (jXm (jW0 N v1) N (0, v1)).bind fun o12 => (jXm (jW6 N v3) N (0, v3)).bind fun o19 => some ({ ({ x0 with Exclusions := v2 } : GPermitPlan) with Spaces := o12, Permits := o19 } : GPermitPlan)
def jVg (N : Nat) (x0 : (List Int)) (x1 : Int) (s1 : Int) : Option (Int ⊕ (Unit ⊕ Int)) :=
  bif (jJy .lss s1 (List.length x0 : Int)) then ((idx x0 s1).bind fun v2 => bif (jJy .eql x1 v2) then (some (.inr (Sum.inr s1))) else (some (.inl (IntKind.i64.wrap (s1 + 1))))) else (some (.inr (Sum.inl ())))
def jKy (N : Nat) (x0 : (List Int)) (x1 : Int) : Option (Int) :=
  (jXm (jVg N x0 x1) N 0).bind fun o5 => Sum.elim (fun l7 => some (-1)) (fun r8 => some r8) o5
def jWu (N : Nat) (x0 : (List Int)) (x1 : Int) : Option (Bool) :=
  (jKy N x0 x1).bind fun v1 => some (jJy .geq v1 0)
def jQd (N : Nat) (g0 : jJq) (g0_2 : (List (Str × jJj))) (g0_3 : (List (Str × jJz))) (g0_4 : (List (Str × Str))) (x1 : Str) (x2 : (List Int)) : Option Bool :=
  (jWu N x2 ((jX4 (⟨0, [], 0⟩ : jJj) g0_2 x1).state)).bind fun v1 => some v1
def jQu (N : Nat) (g0 : jJq) (g0_2 : (List (Str × jJj))) (g0_3 : (List (Str × jJz))) (g0_4 : (List (Str × Str))) (x1 : Str) (x2 : Int) : Option (List (Str × jJj)) :=
  some (jG5 g0_2 x1 ({ (jX4 (⟨0, [], 0⟩ : jJj) g0_2 x1) with state := x2 } : jJj))
def jWl (N : Nat) (x0 : GPermitPlan) (v1 : (jJ4 × Bool)) (s11 : ((List Str) × Int)) : Option (((List Str) × Int) ⊕ (List Str)) :=
  bif (jJy .lss s11.2 (List.length x0.Spaces : Int)) then ((idx x0.Spaces s11.2).bind fun v12 => (bif v12.Enclosed then (jYn N x0 v12.Name v1.1.Name) else some 0).bind fun v13 => bif (v12.Enclosed && (jJy .eql v13 1)) then ((app s11.1 [v12.Name]).bind fun v14 => some (.inl (v14, (IntKind.i64.wrap (s11.2 + 1))))) else (some (.inl (s11.1, (IntKind.i64.wrap (s11.2 + 1)))))) else (some (.inr s11.1))
def jKr (N : Nat) (x0 : GPermitPlan) (x1 : jJg) : Option ((List Str)) :=
  (jXr N x0 x1.Space).bind fun v1 => ((((bif (jJy .eql x1.Kind 0) then (some (jJy .eql x1.Kind 0)) else (bif (jJy .eql x1.Kind 1) then (some (jJy .eql x1.Kind 1)) else (some (jJy .eql x1.Kind 2)))) : Option Bool).bind fun o4 => bif o4 then (bif v1.1.Enclosed then ((app [] [v1.1.Name]).bind fun v6 => some v6) else (some [])) else (some [])) : Option (List Str)).bind fun o9 => bif (jJy .eql x1.Kind 0) then ((jXm (jWl N x0 v1) N (o9, 0)).bind fun o17 => some o17) else (some o9)
def jYu (N : Nat) (g0 : jJq) (g0_2 : (List (Str × jJj))) (g0_3 : (List (Str × jJz))) (g0_4 : (List (Str × Str))) (x1 : Str) : Option (Bool × Bool) :=
  (jXr N g0.plan x1).bind fun v1 => bif (!v1.1.Enclosed) then (some (true, true)) else (some ((((((jY7 g0_3 x1) && (jJy .leq (IntKind.i64.wrap (g0.now - ((jX4 (⟨0, 0, 0⟩ : jJz) g0_3 x1).at_))) g0.plan.GasMinutes)) && (jJy .geq ((jX4 (⟨0, 0, 0⟩ : jJz) g0_3 x1).oxygen) 195)) && (jJy .leq ((jX4 (⟨0, 0, 0⟩ : jJz) g0_3 x1).oxygen) 235)) && (jJy .leq ((jX4 (⟨0, 0, 0⟩ : jJz) g0_3 x1).gas) 50)), ((((((jY7 g0_3 x1) && (jJy .leq (IntKind.i64.wrap (g0.now - ((jX4 (⟨0, 0, 0⟩ : jJz) g0_3 x1).at_))) g0.plan.GasMinutes)) && (jJy .geq ((jX4 (⟨0, 0, 0⟩ : jJz) g0_3 x1).oxygen) 195)) && (jJy .leq ((jX4 (⟨0, 0, 0⟩ : jJz) g0_3 x1).oxygen) 235)) && (jJy .leq ((jX4 (⟨0, 0, 0⟩ : jJz) g0_3 x1).gas) 50)) && (jJy .leq ((jX4 (⟨0, 0, 0⟩ : jJz) g0_3 x1).gas) 10))))
def jZ7 (N : Nat) (g0 : jJq) (g0_2 : (List (Str × jJj))) (g0_3 : (List (Str × jJz))) (g0_4 : (List (Str × Str))) (x0 : Str) (c1 : jJg) : Option Bool :=
  (jYu N g0 g0_2 g0_3 g0_4 x0).bind fun v1 => bif (jJy .eql c1.Kind 0) then (some v1.2) else (some v1.1)
def jQm (N : Nat) (g0 : jJq) (g0_2 : (List (Str × jJj))) (g0_3 : (List (Str × jJz))) (g0_4 : (List (Str × Str))) (x0 : (List Str)) (x1_1 : jJg) (s1 : Int) : Option (Int ⊕ (Unit ⊕ Int)) :=
  bif (jJy .lss s1 (List.length x0 : Int)) then ((idx x0 s1).bind fun v2 => (jZ7 N g0 g0_2 g0_3 g0_4 v2 x1_1).bind fun v3 => bif v3 then (some (.inr (Sum.inr s1))) else (some (.inl (IntKind.i64.wrap (s1 + 1))))) else (some (.inr (Sum.inl ())))
def jQs (N : Nat) (g0 : jJq) (g0_2 : (List (Str × jJj))) (g0_3 : (List (Str × jJz))) (g0_4 : (List (Str × Str))) (x0 : (List Str)) (x1_1 : jJg) : Option Int :=
  (jXm (jQm N g0 g0_2 g0_3 g0_4 x0 x1_1) N 0).bind fun o6 => Sum.elim (fun l8 => some (-1)) (fun r9 => some r9) o6
def jQl (N : Nat) (g0 : jJq) (g0_2 : (List (Str × jJj))) (g0_3 : (List (Str × jJz))) (g0_4 : (List (Str × Str))) (x1_1 : jJg) (s2 : ((List Str) × Int × Int)) : Option (((List Str) × Int × Int) ⊕ ((List Str) × Int)) :=
  bif (jJy .lss s2.2.2 (List.length s2.1 : Int)) then ((idx s2.1 s2.2.2).bind fun v3 => (jZ7 N g0 g0_2 g0_3 g0_4 v3 x1_1).bind fun v4 => bif (!v4) then ((idx s2.1 s2.2.1).bind fun v5 => some (.inl ((List.set s2.1 (Int.toNat s2.2.1) v3), (IntKind.i64.wrap (s2.2.1 + 1)), (IntKind.i64.wrap (s2.2.2 + 1))))) else (some (.inl (s2.1, s2.2.1, (IntKind.i64.wrap (s2.2.2 + 1)))))) else (some (.inr (s2.1, s2.2.1)))
def jQr (N : Nat) (g0 : jJq) (g0_2 : (List (Str × jJj))) (g0_3 : (List (Str × jJz))) (g0_4 : (List (Str × Str))) (x0 : (List Str)) (x1_1 : jJg) : Option (List Str) :=
  (jQs N g0 g0_2 g0_3 g0_4 x0 x1_1).bind fun v1 => bif (jJy .eql v1 (-1)) then (some x0) else ((jXm (jQl N g0 g0_2 g0_3 g0_4 x1_1) N (x0, v1, (IntKind.i64.wrap (v1 + 1)))).bind fun o8 => (slc o8.1 o8.2 (List.length o8.1 : Int)).bind fun v10 => (bif Nat.beq ((Int.toNat o8.2) + (Int.toNat (List.length o8.1 : Int) - Int.toNat o8.2)) (List.length o8.1) then some (List.take (Int.toNat o8.2) o8.1 ++ List.replicate (Int.toNat (List.length o8.1 : Int) - Int.toNat o8.2) []) else none).bind fun v11 => (slc v11 0 o8.2).bind fun v12 => some v12)
def jVy (N : Nat) (g0 : jJq) (g0_2 : (List (Str × jJj))) (g0_3 : (List (Str × jJz))) (g0_4 : (List (Str × Str))) (x1 : jJg) : Option (List Str) :=
  (jKr N g0.plan x1).bind fun v1 => (jQr N g0 g0_2 g0_3 g0_4 v1 x1).bind fun v2 => some v2
def jZd (N : Nat) (g0 : jJq) (g0_2 : (List (Str × jJj))) (g0_3 : (List (Str × jJz))) (g0_4 : (List (Str × Str))) (x0 : Str) : Option Bool :=
  (jQd N g0 g0_2 g0_3 g0_4 x0 [2]).bind fun v1 => some v1
def jQh (N : Nat) (g0 : jJq) (g0_2 : (List (Str × jJj))) (g0_3 : (List (Str × jJz))) (g0_4 : (List (Str × Str))) (x0 : (List Str)) (s1 : Int) : Option (Int ⊕ (Unit ⊕ Int)) :=
  bif (jJy .lss s1 (List.length x0 : Int)) then ((idx x0 s1).bind fun v2 => (jZd N g0 g0_2 g0_3 g0_4 v2).bind fun v3 => bif v3 then (some (.inr (Sum.inr s1))) else (some (.inl (IntKind.i64.wrap (s1 + 1))))) else (some (.inr (Sum.inl ())))
def jQp (N : Nat) (g0 : jJq) (g0_2 : (List (Str × jJj))) (g0_3 : (List (Str × jJz))) (g0_4 : (List (Str × Str))) (x0 : (List Str)) : Option Int :=
  (jXm (jQh N g0 g0_2 g0_3 g0_4 x0) N 0).bind fun o6 => Sum.elim (fun l8 => some (-1)) (fun r9 => some r9) o6
def jQk (N : Nat) (g0 : jJq) (g0_2 : (List (Str × jJj))) (g0_3 : (List (Str × jJz))) (g0_4 : (List (Str × Str))) (s2 : ((List Str) × Int × Int)) : Option (((List Str) × Int × Int) ⊕ ((List Str) × Int)) :=
  bif (jJy .lss s2.2.2 (List.length s2.1 : Int)) then ((idx s2.1 s2.2.2).bind fun v3 => (jZd N g0 g0_2 g0_3 g0_4 v3).bind fun v4 => bif (!v4) then ((idx s2.1 s2.2.1).bind fun v5 => some (.inl ((List.set s2.1 (Int.toNat s2.2.1) v3), (IntKind.i64.wrap (s2.2.1 + 1)), (IntKind.i64.wrap (s2.2.2 + 1))))) else (some (.inl (s2.1, s2.2.1, (IntKind.i64.wrap (s2.2.2 + 1)))))) else (some (.inr (s2.1, s2.2.1)))
def jQ7 (N : Nat) (g0 : jJq) (g0_2 : (List (Str × jJj))) (g0_3 : (List (Str × jJz))) (g0_4 : (List (Str × Str))) (x0 : (List Str)) : Option (List Str) :=
  (jQp N g0 g0_2 g0_3 g0_4 x0).bind fun v1 => bif (jJy .eql v1 (-1)) then (some x0) else ((jXm (jQk N g0 g0_2 g0_3 g0_4) N (x0, v1, (IntKind.i64.wrap (v1 + 1)))).bind fun o8 => (slc o8.1 o8.2 (List.length o8.1 : Int)).bind fun v10 => (bif Nat.beq ((Int.toNat o8.2) + (Int.toNat (List.length o8.1 : Int) - Int.toNat o8.2)) (List.length o8.1) then some (List.take (Int.toNat o8.2) o8.1 ++ List.replicate (Int.toNat (List.length o8.1 : Int) - Int.toNat o8.2) []) else none).bind fun v11 => (slc v11 0 o8.2).bind fun v12 => some v12)
def jZt (N : Nat) (g0 : jJq) (g0_2 : (List (Str × jJj))) (g0_3 : (List (Str × jJz))) (g0_4 : (List (Str × Str))) (x1 : jJg) : Option (List Str) :=
  (jQc N x1.Locks).bind fun v1 => (jQ7 N g0 g0_2 g0_3 g0_4 v1).bind fun v2 => some v2
def jZm (N : Nat) (g0 : jJq) (g0_3 : (List (Str × jJz))) (g0_4 : (List (Str × Str))) (s10 : (Bool × Int × (List (Str × jJj)))) : Option ((Bool × Int × (List (Str × jJj))) ⊕ (Bool × (List (Str × jJj)))) :=
  bif (jJy .lss s10.2.1 (List.length g0.plan.Permits : Int)) then ((idx g0.plan.Permits s10.2.1).bind fun v11 => (jQd N g0 s10.2.2 g0_3 g0_4 v11.Name [2]).bind fun v12 => (bif v12 then (jVy N g0 s10.2.2 g0_3 g0_4 v11) else some []).bind fun v13 => (bif (v12 && (!(jJy .gtr (List.length v13 : Int) 0))) then (jZt N g0 s10.2.2 g0_3 g0_4 v11) else some []).bind fun v14 => bif (v12 && ((jJy .gtr (List.length v13 : Int) 0) || (jJy .gtr (List.length v14 : Int) 0))) then ((jQu N g0 s10.2.2 g0_3 g0_4 v11.Name 3).bind fun v15 => some (.inl (true, (IntKind.i64.wrap (s10.2.1 + 1)), v15))) else (some (.inl (s10.1, (IntKind.i64.wrap (s10.2.1 + 1)), s10.2.2)))) else (some (.inr (s10.1, s10.2.2)))
def jZ6 (N : Nat) (g0 : jJq) (g0_3 : (List (Str × jJz))) (g0_4 : (List (Str × Str))) (s9 : (Bool × (List (Str × jJj)))) : Option ((Bool × (List (Str × jJj))) ⊕ (List (Str × jJj))) :=
  bif s9.1 then ((jXm (jZm N g0 g0_3 g0_4) N (false, 0, s9.2)).bind fun o18 => some (.inl (o18.1, o18.2))) else (some (.inr s9.2))
def jZ5 (N : Nat) (g0 : jJq) (g0_3 : (List (Str × jJz))) (g0_4 : (List (Str × Str))) (s1 : (Int × (List (Str × jJj)))) : Option ((Int × (List (Str × jJj))) ⊕ (List (Str × jJj))) :=
  bif (jJy .lss s1.1 (List.length g0.plan.Permits : Int)) then ((idx g0.plan.Permits s1.1).bind fun v2 => (jQd N g0 s1.2 g0_3 g0_4 v2.Name [0, 1, 2, 3]).bind fun v3 => bif (v3 && (jJy .leq ((jX4 (⟨0, [], 0⟩ : jJj) s1.2 v2.Name).to_) g0.now)) then ((jQu N g0 s1.2 g0_3 g0_4 v2.Name 6).bind fun v4 => some (.inl ((IntKind.i64.wrap (s1.1 + 1)), v4))) else (some (.inl ((IntKind.i64.wrap (s1.1 + 1)), s1.2)))) else (some (.inr s1.2))
def jZr (N : Nat) (g0 : jJq) (g0_2 : (List (Str × jJj))) (g0_3 : (List (Str × jJz))) (g0_4 : (List (Str × Str))) : Option (List (Str × jJj)) :=
  (jXm (jZ5 N g0 g0_3 g0_4) N (0, g0_2)).bind fun o7 => (jXm (jZ6 N g0 g0_3 g0_4) N (true, o7)).bind fun o22 => some o22
def jWr (N : Nat) (x0 : GPermitPlan) (s7 : (Int × (List (Str × jJj)))) : Option ((Int × (List (Str × jJj))) ⊕ (List (Str × jJj))) :=
  bif (jJy .lss s7.1 (List.length x0.Permits : Int)) then ((idx x0.Permits s7.1).bind fun v8 => some (.inl ((IntKind.i64.wrap (s7.1 + 1)), (jG5 s7.2 v8.Name (⟨0, [], v8.To⟩ : jJj))))) else (some (.inr s7.2))
def jKs (N : Nat) (x0 : GPermitPlan) : Option ((Option (jJq × (List (Str × jJj)) × (List (Str × jJz)) × (List (Str × Str)))) × (Int)) :=
  (jY1 N x0).bind fun v1 => bif (jJy .neq v1 0) then (some (none, v1)) else ((jGy N x0).bind fun v2 => (jXm (jWr N x0) N (0, ([] : (List (Str × jJj))))).bind fun o10 => (jZr N (⟨v2, 0, []⟩ : jJq) o10 ([] : (List (Str × jJz))) ([] : (List (Str × Str)))).bind fun v12 => some ((some ((⟨v2, 0, []⟩ : jJq), v12, ([] : (List (Str × jJz))), ([] : (List (Str × Str))))), 0))
def jUt (N : Nat) : Option ((List jJb)) :=
  some [(⟨([116, 105, 99, 107] : Str), ([] : Str), ([] : (List Int)), (some 125)⟩ : jJb), (⟨([97, 112, 112, 114, 111, 118, 101] : Str), ([110, 112] : Str), [0], (some 126)⟩ : jJb), (⟨([111, 112, 101, 110] : Str), ([110, 112] : Str), [1], (some 127)⟩ : jJb), (⟨([115, 117, 115, 112, 101, 110, 100] : Str), ([110] : Str), [2], (some 128)⟩ : jJb), (⟨([114, 101, 115, 117, 109, 101] : Str), ([110, 112] : Str), [3], (some 127)⟩ : jJb), (⟨([99, 108, 111, 115, 101] : Str), ([110] : Str), [2, 3], (some 129)⟩ : jJb), (⟨([99, 97, 110, 99, 101, 108] : Str), ([110] : Str), [0, 1], (some 130)⟩ : jJb), (⟨([103, 97, 115] : Str), ([115, 111, 103] : Str), ([] : (List Int)), (some 131)⟩ : jJb), (⟨([101, 110, 116, 101, 114] : Str), ([112, 115] : Str), ([] : (List Int)), (some 132)⟩ : jJb), (⟨([108, 101, 97, 118, 101] : Str), ([112] : Str), ([] : (List Int)), (some 133)⟩ : jJb), (⟨([97, 108, 97, 114, 109] : Str), ([115] : Str), ([] : (List Int)), (some 134)⟩ : jJb), (⟨([101, 120, 116, 101, 110, 100] : Str), ([110, 112, 116] : Str), [1, 2, 3], (some 135)⟩ : jJb)]
def jUg (N : Nat) (x0 : Int) : Option (Bool) :=
  some ((jJy .geq x0 0) && (jJy .leq x0 1000000))
def jU7 (N : Nat) (x0 : (Option (jJq × Value × Value × Value))) (x1 : GEvent) : Option ((List Str) × Int) :=
  (jUt N).bind fun v1 => bif (Option.isNone x0) then (some ([], 1)) else ((bif (!((jJy .lss x1.Op 0) || (jJy .geq x1.Op (List.length v1 : Int)))) then (jUg N x1.At) else some false).bind fun v2 => bif (((jJy .lss x1.Op 0) || (jJy .geq x1.Op (List.length v1 : Int))) || (!v2)) then (some ([], 2)) else (none))
def jB1 (N : Nat) (x0 : (List Str)) (x1 : (List Str)) (s1 : Int) : Option (Int ⊕ (Unit ⊕ Bool)) :=
  bif (jJy .lss s1 (List.length x0 : Int)) then ((idx x0 s1).bind fun v2 => (idx x1 s1).bind fun v3 => bif (jKe .neq v2 v3) then (some (.inr (Sum.inr false))) else (some (.inl (IntKind.i64.wrap (s1 + 1))))) else (some (.inr (Sum.inl ())))
def jDv (N : Nat) (x0 : (List Str)) (x1 : (List Str)) : Option (Bool) :=
  bif (jJy .neq (List.length x0 : Int) (List.length x1 : Int)) then (some false) else ((jXm (jB1 N x0 x1) N 0).bind fun o6 => Sum.elim (fun l8 => some true) (fun r9 => some r9) o6)
def jU1 (N : Nat) (g0 : jJq) (g0_2 : (List (Str × jJj))) (g0_3 : (List (Str × jJz))) (g0_4 : (List (Str × Str))) (x1 : GEvent) : Option jJk :=
  some (⟨[], 0⟩ : jJk)
def jZl (N : Nat) (x0 : Int) (x1 : (List Str)) : Option (jJk) :=
  some (⟨x1, x0⟩ : jJk)
def jWw (N : Nat) (g0 : jJq) (g0_2 : (List (Str × jJj))) (g0_3 : (List (Str × jJz))) (g0_4 : (List (Str × Str))) (x1 : GEvent) : Option ((List (Str × jJj)) × jJk) :=
  (jW7 N x1.Person).bind fun v1 => bif (!v1) then ((jZl N 4 ([] : (List Str))).bind fun v2 => some (g0_2, v2)) else (some ((jG5 g0_2 x1.Name ({ ({ (jX4 (⟨0, [], 0⟩ : jJj) g0_2 x1.Name) with state := 1 } : jJj) with by_ := x1.Person } : jJj)), (⟨[], 0⟩ : jJk)))
def jYr (N : Nat) (g0 : jJq) (g0_2 : (List (Str × jJj))) (g0_3 : (List (Str × jJz))) (g0_4 : (List (Str × Str))) (x1 : jJg) : Option jJg :=
  some x1
def jYb (N : Nat) (x0 : jJs) (c0 : Int) (c1 : jJg) (c2 : jJg) : Option (Bool) :=
  some ((jJy .leq c0 x0.Reach) && (((jJy .eql x0.A c1.Kind) && (jJy .eql x0.B c2.Kind)) || ((jJy .eql x0.A c2.Kind) && (jJy .eql x0.B c1.Kind))))
def jQ4 (N : Nat) (x0 : (List jJs)) (x1 : (jJs → Option Bool)) (s1 : Int) : Option (Int ⊕ (Unit ⊕ Int)) :=
  bif (jJy .lss s1 (List.length x0 : Int)) then ((idx x0 s1).bind fun v2 => (x1 v2).bind fun v3 => bif v3 then (some (.inr (Sum.inr s1))) else (some (.inl (IntKind.i64.wrap (s1 + 1))))) else (some (.inr (Sum.inl ())))
def jXv (N : Nat) (x0 : (List jJs)) (x1 : (jJs → Option Bool)) : Option (Int) :=
  (jXm (jQ4 N x0 x1) N 0).bind fun o6 => Sum.elim (fun l8 => some (-1)) (fun r9 => some r9) o6
def jX0 (N : Nat) (x0 : (List jJs)) (x1 : (jJs → Option Bool)) : Option (Bool) :=
  (jXv N x0 x1).bind fun v1 => some (jJy .geq v1 0)
def jK2 (N : Nat) (x0 : GPermitPlan) (x1 : jJg) (x2 : jJg) : Option (Bool) :=
  bif (jKe .eql x1.Name x2.Name) then (some false) else ((jYn N x0 x1.Space x2.Space).bind fun v1 => (jX0 N x0.Exclusions (fun y0 => jYb N y0 v1 x1 x2)).bind fun v2 => some v2)
def jVk (N : Nat) (g0 : jJq) (g0_2 : (List (Str × jJj))) (g0_3 : (List (Str × jJz))) (g0_4 : (List (Str × Str))) (x0 : jJg) (c1 : jJg) : Option Bool :=
  (jK2 N g0.plan x0 c1).bind fun v1 => some v1
def jQ0 (N : Nat) (g0 : jJq) (g0_2 : (List (Str × jJj))) (g0_3 : (List (Str × jJz))) (g0_4 : (List (Str × Str))) (x1_1 : jJg) (s1 : ((List Str) × Int)) : Option (((List Str) × Int) ⊕ (List Str)) :=
  bif (jJy .lss s1.2 (List.length g0.plan.Permits : Int)) then ((idx g0.plan.Permits s1.2).bind fun v2 => (jQd N g0 g0_2 g0_3 g0_4 v2.Name [2]).bind fun v3 => (bif v3 then (jVk N g0 g0_2 g0_3 g0_4 v2 x1_1) else some false).bind fun v4 => bif (v3 && v4) then ((app s1.1 [v2.Name]).bind fun v5 => some (.inl (v5, (IntKind.i64.wrap (s1.2 + 1))))) else (some (.inl (s1.1, (IntKind.i64.wrap (s1.2 + 1)))))) else (some (.inr s1.1))
def jX5 (N : Nat) (g0 : jJq) (g0_2 : (List (Str × jJj))) (g0_3 : (List (Str × jJz))) (g0_4 : (List (Str × Str))) (x1_1 : jJg) : Option (List Str) :=
  (jXm (jQ0 N g0 g0_2 g0_3 g0_4 x1_1) N ([], 0)).bind fun o8 => some o8
def jVc (N : Nat) (g0 : jJq) (g0_2 : (List (Str × jJj))) (g0_3 : (List (Str × jJz))) (x0 : Str) (c1 : jJg) : Option Bool :=
  (jYn N g0.plan x0 c1.Space).bind fun v1 => some (jJy .leq v1 1)
def jVe (N : Nat) (x0 : (List Str)) : Option ((List Str)) := qJ9 x0
def jQ8 (N : Nat) (g0 : jJq) (g0_2 : (List (Str × jJj))) (g0_3 : (List (Str × jJz))) (x1_1 : jJg) (s2 : (List Str)) (p3 : (Str × Str)) : Option (List Str) :=
  (jVc N g0 g0_2 g0_3 p3.2 x1_1).bind fun v5 => bif v5 then ((app s2 [p3.1]).bind fun v6 => some v6) else (some s2)
def jXd (N : Nat) (g0 : jJq) (g0_2 : (List (Str × jJj))) (g0_3 : (List (Str × jJz))) (g0_4 : (List (Str × Str))) (x1_1 : jJg) : Option (List Str) :=
  jPd g0_4 fun q4p => (qQx (jQ8 N g0 g0_2 g0_3 x1_1) q4p []).bind fun s2 => (jVe N s2).bind fun v8 => some v8
def jQt {S : Type} (N : Nat) (Y : S → jJ7 → Option (S × Bool)) (o8 : (List jJ7)) (s10 : (Int × S)) : Option ((Int × S) ⊕ (S ⊕ S)) :=
  bif (jJy .lss s10.1 (List.length o8 : Int)) then ((idx o8 s10.1).bind fun v11 => (bif (jJy .gtr (List.length v11.Names : Int) 0) then (Y s10.2 v11) else some (s10.2, false)).bind fun v12 => bif ((jJy .gtr (List.length v11.Names : Int) 0) && (!v12.2)) then (some (.inr (Sum.inr v12.1))) else (some (.inl ((IntKind.i64.wrap (s10.1 + 1)), v12.1)))) else (some (.inr (Sum.inl s10.2)))
def jZn {S : Type} (N : Nat) (Y : S → jJ7 → Option (S × Bool)) (y0 : S) (g0 : jJq) (g0_2 : (List (Str × jJj))) (g0_3 : (List (Str × jJz))) (g0_4 : (List (Str × Str))) (c1 : jJg) : Option S :=
  (bif (jJy .lss g0.now c1.From) then (Y y0 (⟨2, []⟩ : jJ7)) else some (y0, false)).bind fun v1 => bif ((jJy .lss g0.now c1.From) && (!v1.2)) then (some v1.1) else ((jZt N g0 g0_2 g0_3 g0_4 c1).bind fun v2 => (jX5 N g0 g0_2 g0_3 g0_4 c1).bind fun v3 => (jVy N g0 g0_2 g0_3 g0_4 c1).bind fun v4 => ((bif (jJy .eql c1.Kind 3) then ((jXd N g0 g0_2 g0_3 g0_4 c1).bind fun v5 => (app [(⟨18, v2⟩ : jJ7), (⟨20, v3⟩ : jJ7), (⟨21, v4⟩ : jJ7)] [(⟨17, v5⟩ : jJ7)]).bind fun v6 => some v6) else (some [(⟨18, v2⟩ : jJ7), (⟨20, v3⟩ : jJ7), (⟨21, v4⟩ : jJ7)])) : Option (List jJ7)).bind fun o8 => (jXm (jQt N Y o8) N (0, v1.1)).bind fun o15 => Sum.elim (fun l17 => some l17) (fun r18 => some r18) o15)
def jX2 (N : Nat) (s7 : jJk) (i8 : jJ7) : Option (jJk × Option Nat) :=
  (jZl N i8.Err i8.Names).bind fun v12 => some (v12, some 0)
def jV4 (N : Nat) (g0 : jJq) (g0_2 : (List (Str × jJj))) (g0_3 : (List (Str × jJz))) (g0_4 : (List (Str × Str))) (x1 : GEvent) : Option ((List (Str × jJj)) × jJk) :=
  (jW7 N x1.Person).bind fun v1 => bif (!v1) then ((jZl N 4 ([] : (List Str))).bind fun v2 => some (g0_2, v2)) else (bif (jKe .eql x1.Person ((jX4 (⟨0, [], 0⟩ : jJj) g0_2 x1.Name).by_)) then ((jZl N 26 ([] : (List Str))).bind fun v3 => some (g0_2, v3)) else ((jV3 N g0.plan x1.Name).bind fun v4 => (jYr N g0 g0_2 g0_3 g0_4 v4.1).bind fun v5 => (jZn N (yl (jX2 N) 1) ((⟨[], 0⟩ : jJk), none) g0 g0_2 g0_3 g0_4 v5).bind fun o13 => jR3 o13 (fun o13s => (jQu N g0 g0_2 g0_3 g0_4 x1.Name 2).bind fun v14 => some (v14, (⟨[], 0⟩ : jJk))) (fun o13s => some (g0_2, o13s))))
def jKt (N : Nat) (g0 : jJq) (g0_2 : (List (Str × jJj))) (g0_3 : (List (Str × jJz))) (g0_4 : (List (Str × Str))) (x1 : GEvent) : Option ((List (Str × jJj)) × jJk) :=
  (jQu N g0 g0_2 g0_3 g0_4 x1.Name 3).bind fun v1 => some (v1, (⟨[], 0⟩ : jJk))
def jXa (N : Nat) (x0 : jJg) (c0 : jJg) : Option (Bool) :=
  (jQ2 N x0.Locks c0.Name).bind fun v1 => some v1
def jVu (N : Nat) (g0 : jJq) (g0_2 : (List (Str × jJj))) (g0_3 : (List (Str × jJz))) (g0_4 : (List (Str × Str))) (x1 : (jJg → Option Bool)) (s1 : ((List Str) × Int)) : Option (((List Str) × Int) ⊕ (List Str)) :=
  bif (jJy .lss s1.2 (List.length g0.plan.Permits : Int)) then ((idx g0.plan.Permits s1.2).bind fun v2 => (jQd N g0 g0_2 g0_3 g0_4 v2.Name [2]).bind fun v3 => (bif v3 then (x1 v2) else some false).bind fun v4 => bif (v3 && v4) then ((app s1.1 [v2.Name]).bind fun v5 => some (.inl (v5, (IntKind.i64.wrap (s1.2 + 1))))) else (some (.inl (s1.1, (IntKind.i64.wrap (s1.2 + 1)))))) else (some (.inr s1.1))
def jX6 (N : Nat) (g0 : jJq) (g0_2 : (List (Str × jJj))) (g0_3 : (List (Str × jJz))) (g0_4 : (List (Str × Str))) (x1 : (jJg → Option Bool)) : Option (List Str) :=
  (jXm (jVu N g0 g0_2 g0_3 g0_4 x1) N ([], 0)).bind fun o8 => some o8
def jXe (N : Nat) (x0 : jJg) (c0 : jJg) : Option (Bool) :=
  some (((jJy .eql x0.Kind 1) && (jKe .eql x0.Space c0.Space)) && (jKe .neq x0.Name c0.Name))
def jXc (N : Nat) (x0 : Str) (c0 : jJg) : Option (Bool) :=
  some (jKe .eql x0 c0.Space)
def jVh (N : Nat) (x1 : (Str → Option Bool)) (s2 : (List Str)) (p3 : (Str × Str)) : Option (List Str) :=
  (x1 p3.2).bind fun v5 => bif v5 then ((app s2 [p3.1]).bind fun v6 => some v6) else (some s2)
def jZ1 (N : Nat) (g0 : jJq) (g0_2 : (List (Str × jJj))) (g0_3 : (List (Str × jJz))) (g0_4 : (List (Str × Str))) (x1 : (Str → Option Bool)) : Option (List Str) :=
  jPd g0_4 fun q4p => (qQx (jVh N x1) q4p []).bind fun s2 => (jVe N s2).bind fun v8 => some v8
def jVn (N : Nat) (g0 : jJq) (g0_2 : (List (Str × jJj))) (g0_3 : (List (Str × jJz))) (g0_4 : (List (Str × Str))) (x1 : GEvent) : Option ((List (Str × jJj)) × jJk) :=
  (jV3 N g0.plan x1.Name).bind fun v1 => (jXr N g0.plan v1.1.Space).bind fun v2 => ((bif (jJy .eql v1.1.Kind 5) then ((jX6 N g0 g0_2 g0_3 g0_4 (fun y0 => jXa N y0 v1.1)).bind fun v3 => bif (jJy .gtr (List.length v3 : Int) 0) then ((jZl N 20 v3).bind fun v4 => some (Sum.inr v4)) else (some (Sum.inl (⟨[], 0⟩ : jJk)))) else ((bif (jJy .eql v1.1.Kind 1) then (jQd N g0 g0_2 g0_3 g0_4 v1.1.Name [2]) else some false).bind fun v6 => bif (((jJy .eql v1.1.Kind 1) && v6) && v2.1.Enclosed) then ((jX6 N g0 g0_2 g0_3 g0_4 (fun y0 => jXe N y0 v1.1)).bind fun v7 => (jZ1 N g0 g0_2 g0_3 g0_4 (fun y0 => jXc N y0 v1.1)).bind fun v8 => bif ((jJy .eql (List.length v7 : Int) 0) && (jJy .gtr (List.length v8 : Int) 0)) then ((jZl N 21 v8).bind fun v9 => some (Sum.inr v9)) else (some (Sum.inl (⟨[], 0⟩ : jJk)))) else (some (Sum.inl (⟨[], 0⟩ : jJk))))) : Option (jJk ⊕ jJk)).bind fun o13 => Sum.elim (fun l15 => (jQu N g0 g0_2 g0_3 g0_4 x1.Name 4).bind fun v17 => some (v17, (⟨[], 0⟩ : jJk))) (fun r16 => some (g0_2, r16)) o13
def jK6 (N : Nat) (g0 : jJq) (g0_2 : (List (Str × jJj))) (g0_3 : (List (Str × jJz))) (g0_4 : (List (Str × Str))) (x1 : GEvent) : Option ((List (Str × jJj)) × jJk) :=
  (jQu N g0 g0_2 g0_3 g0_4 x1.Name 5).bind fun v1 => some (v1, (⟨[], 0⟩ : jJk))
def jYt (N : Nat) (g0 : jJq) (g0_2 : (List (Str × jJj))) (g0_3 : (List (Str × jJz))) (g0_4 : (List (Str × Str))) (x1 : GEvent) : Option ((List (Str × jJz)) × jJk) :=
  (jXr N g0.plan x1.Space).bind fun v1 => bif (!v1.2) then ((jZl N 6 ([] : (List Str))).bind fun v2 => some (g0_3, v2)) else (bif ((((jJy .lss x1.Oxygen 0) || (jJy .gtr x1.Oxygen 1000)) || (jJy .lss x1.Gas 0)) || (jJy .gtr x1.Gas 1000)) then ((jZl N 2 ([] : (List Str))).bind fun v3 => some (g0_3, v3)) else (some ((jG5 g0_3 x1.Space (⟨g0.now, x1.Oxygen, x1.Gas⟩ : jJz)), (⟨[], 0⟩ : jJk))))
def jZp (N : Nat) (x0 : jJg) (c0 : Str) : Option (Bool) :=
  some ((jJy .eql x0.Kind 1) && (jKe .eql x0.Space c0))
def jWs (N : Nat) (g0 : jJq) (g0_2 : (List (Str × jJj))) (g0_3 : (List (Str × jJz))) (g0_4 : (List (Str × Str))) (x1 : Str) : Option Bool :=
  (jX6 N g0 g0_2 g0_3 g0_4 (fun y0 => jZp N y0 x1)).bind fun v1 => some (jJy .gtr (List.length v1 : Int) 0)
def jWy (N : Nat) (g0 : jJq) (g0_2 : (List (Str × jJj))) (g0_3 : (List (Str × jJz))) (g0_4 : (List (Str × Str))) (x0 : jJg) (c1 : jJ4) : Option Bool :=
  (bif (jJy .eql x0.Kind 3) then (jYn N g0.plan x0.Space c1.Name) else some 0).bind fun v1 => some ((jJy .eql x0.Kind 3) && (jJy .leq v1 1))
def jXz (N : Nat) (g0 : jJq) (g0_2 : (List (Str × jJj))) (g0_3 : (List (Str × jJz))) (g0_4 : (List (Str × Str))) (x1_1 : jJ4) (s1 : ((List Str) × Int)) : Option (((List Str) × Int) ⊕ (List Str)) :=
  bif (jJy .lss s1.2 (List.length g0.plan.Permits : Int)) then ((idx g0.plan.Permits s1.2).bind fun v2 => (jQd N g0 g0_2 g0_3 g0_4 v2.Name [2]).bind fun v3 => (bif v3 then (jWy N g0 g0_2 g0_3 g0_4 v2 x1_1) else some false).bind fun v4 => bif (v3 && v4) then ((app s1.1 [v2.Name]).bind fun v5 => some (.inl (v5, (IntKind.i64.wrap (s1.2 + 1))))) else (some (.inl (s1.1, (IntKind.i64.wrap (s1.2 + 1)))))) else (some (.inr s1.1))
def jZy (N : Nat) (g0 : jJq) (g0_2 : (List (Str × jJj))) (g0_3 : (List (Str × jJz))) (g0_4 : (List (Str × Str))) (x1_1 : jJ4) : Option (List Str) :=
  (jXm (jXz N g0 g0_2 g0_3 g0_4 x1_1) N ([], 0)).bind fun o8 => some o8
def jW4 (N : Nat) (g0 : jJq) (g0_2 : (List (Str × jJj))) (g0_3 : (List (Str × jJz))) (g0_4 : (List (Str × Str))) (x1 : GEvent) : Option ((List (Str × Str)) × jJk) :=
  (jW7 N x1.Person).bind fun v1 => bif (!v1) then ((jZl N 4 ([] : (List Str))).bind fun v2 => some (g0_4, v2)) else ((jXr N g0.plan x1.Space).bind fun v3 => bif (!v3.2) then ((jZl N 6 ([] : (List Str))).bind fun v4 => some (g0_4, v4)) else (bif (jY7 g0_4 x1.Person) then ((jZl N 18 ([] : (List Str))).bind fun v5 => some (g0_4, v5)) else ((bif v3.1.Enclosed then (jWs N g0 g0_2 g0_3 g0_4 v3.1.Name) else some false).bind fun v6 => bif (v3.1.Enclosed && (!v6)) then ((jZl N 21 ([] : (List Str))).bind fun v7 => some (g0_4, v7)) else ((jZy N g0 g0_2 g0_3 g0_4 v3.1).bind fun v8 => bif (jJy .gtr (List.length v8 : Int) 0) then ((jZl N 17 v8).bind fun v9 => some (g0_4, v9)) else (some ((jG5 g0_4 x1.Person v3.1.Name), (⟨[], 0⟩ : jJk)))))))
def jW3 (N : Nat) (g0 : jJq) (g0_2 : (List (Str × jJj))) (g0_3 : (List (Str × jJz))) (g0_4 : (List (Str × Str))) (x1 : GEvent) : Option ((List (Str × Str)) × jJk) :=
  (jW7 N x1.Person).bind fun v1 => bif (!v1) then ((jZl N 4 ([] : (List Str))).bind fun v2 => some (g0_4, v2)) else (bif (!(jY7 g0_4 x1.Person)) then ((jZl N 6 ([] : (List Str))).bind fun v3 => some (g0_4, v3)) else (some ((jTs g0_4 x1.Person), (⟨[], 0⟩ : jJk))))
def jWk (N : Nat) (g0 : jJq) (g0_2 : (List (Str × jJj))) (g0_3 : (List (Str × jJz))) (g0_4 : (List (Str × Str))) (x0 : jJg) (c1 : GEvent) : Option Bool :=
  (bif (jJy .neq x0.Kind 5) then (jYn N g0.plan x0.Space c1.Space) else some 0).bind fun v1 => some ((jJy .neq x0.Kind 5) && (jJy .leq v1 1))
def jXx (N : Nat) (g0 : jJq) (g0_2 : (List (Str × jJj))) (g0_3 : (List (Str × jJz))) (g0_4 : (List (Str × Str))) (x1_1 : GEvent) (s1 : ((List Str) × Int)) : Option (((List Str) × Int) ⊕ (List Str)) :=
  bif (jJy .lss s1.2 (List.length g0.plan.Permits : Int)) then ((idx g0.plan.Permits s1.2).bind fun v2 => (jQd N g0 g0_2 g0_3 g0_4 v2.Name [2]).bind fun v3 => (bif v3 then (jWk N g0 g0_2 g0_3 g0_4 v2 x1_1) else some false).bind fun v4 => bif (v3 && v4) then ((app s1.1 [v2.Name]).bind fun v5 => some (.inl (v5, (IntKind.i64.wrap (s1.2 + 1))))) else (some (.inl (s1.1, (IntKind.i64.wrap (s1.2 + 1)))))) else (some (.inr s1.1))
def jZu (N : Nat) (g0 : jJq) (g0_2 : (List (Str × jJj))) (g0_3 : (List (Str × jJz))) (g0_4 : (List (Str × Str))) (x1_1 : GEvent) : Option (List Str) :=
  (jXm (jXx N g0 g0_2 g0_3 g0_4 x1_1) N ([], 0)).bind fun o8 => some o8
def jZc (N : Nat) (g0 : jJq) (g0_3 : (List (Str × jJz))) (g0_4 : (List (Str × Str))) (v3 : (List Str)) (s4 : (Int × (List (Str × jJj)))) : Option ((Int × (List (Str × jJj))) ⊕ (List (Str × jJj))) :=
  bif (jJy .lss s4.1 (List.length v3 : Int)) then ((idx v3 s4.1).bind fun v5 => (jQu N g0 s4.2 g0_3 g0_4 v5 3).bind fun v6 => some (.inl ((IntKind.i64.wrap (s4.1 + 1)), v6))) else (some (.inr s4.2))
def jW2 (N : Nat) (g0 : jJq) (g0_2 : (List (Str × jJj))) (g0_3 : (List (Str × jJz))) (g0_4 : (List (Str × Str))) (x1 : GEvent) : Option ((List (Str × jJj)) × jJk) :=
  (jXr N g0.plan x1.Space).bind fun v1 => bif (!v1.2) then ((jZl N 6 ([] : (List Str))).bind fun v2 => some (g0_2, v2)) else ((jZu N g0 g0_2 g0_3 g0_4 x1).bind fun v3 => (jXm (jZc N g0 g0_3 g0_4 v3) N (0, g0_2)).bind fun o8 => some (o8, (⟨[], 0⟩ : jJk)))
def jWm (N : Nat) (g0 : jJq) (g0_2 : (List (Str × jJj))) (g0_3 : (List (Str × jJz))) (g0_4 : (List (Str × Str))) (x1 : GEvent) : Option ((List (Str × jJj)) × jJk) :=
  (jW7 N x1.Person).bind fun v1 => bif (!v1) then ((jZl N 4 ([] : (List Str))).bind fun v2 => some (g0_2, v2)) else (bif ((jJy .leq x1.To ((jX4 (⟨0, [], 0⟩ : jJj) g0_2 x1.Name).to_)) || (jJy .gtr x1.To 1000000)) then ((jZl N 2 ([] : (List Str))).bind fun v3 => some (g0_2, v3)) else (some ((jG5 g0_2 x1.Name ({ (jX4 (⟨0, [], 0⟩ : jJj) g0_2 x1.Name) with to_ := x1.To } : jJj)), (⟨[], 0⟩ : jJk))))
def jL9 (N : Nat) (g0 : jJq) (g0_2 : (List (Str × jJj))) (g0_3 : (List (Str × jJz))) (g0_4 : (List (Str × Str))) (n : (Option Nat)) (x1 : GEvent) : Option ((List (Str × jJj)) × (List (Str × jJz)) × (List (Str × Str)) × jJk) :=
  bif decide (n = some 125) then ((jU1 N g0 g0_2 g0_3 g0_4 x1).bind fun y => some (g0_2, g0_3, g0_4, y)) else (bif decide (n = some 126) then ((jWw N g0 g0_2 g0_3 g0_4 x1).bind fun y => some (y.1, g0_3, g0_4, y.2)) else (bif decide (n = some 127) then ((jV4 N g0 g0_2 g0_3 g0_4 x1).bind fun y => some (y.1, g0_3, g0_4, y.2)) else (bif decide (n = some 128) then ((jKt N g0 g0_2 g0_3 g0_4 x1).bind fun y => some (y.1, g0_3, g0_4, y.2)) else (bif decide (n = some 129) then ((jVn N g0 g0_2 g0_3 g0_4 x1).bind fun y => some (y.1, g0_3, g0_4, y.2)) else (bif decide (n = some 130) then ((jK6 N g0 g0_2 g0_3 g0_4 x1).bind fun y => some (y.1, g0_3, g0_4, y.2)) else (bif decide (n = some 131) then ((jYt N g0 g0_2 g0_3 g0_4 x1).bind fun y => some (g0_2, y.1, g0_4, y.2)) else (bif decide (n = some 132) then ((jW4 N g0 g0_2 g0_3 g0_4 x1).bind fun y => some (g0_2, g0_3, y.1, y.2)) else (bif decide (n = some 133) then ((jW3 N g0 g0_2 g0_3 g0_4 x1).bind fun y => some (g0_2, g0_3, y.1, y.2)) else (bif decide (n = some 134) then ((jW2 N g0 g0_2 g0_3 g0_4 x1).bind fun y => some (y.1, g0_3, g0_4, y.2)) else (bif decide (n = some 135) then ((jWm N g0 g0_2 g0_3 g0_4 x1).bind fun y => some (y.1, g0_3, g0_4, y.2)) else (none)))))))))))
def jVb (N : Nat) (g0 : jJq) (g0_2 : (List (Str × jJj))) (g0_3 : (List (Str × jJz))) (g0_4 : (List (Str × Str))) (x1 : GEvent) : Option (jJq × (List (Str × jJj)) × (List (Str × jJz)) × (List (Str × Str)) × (List Str) × Int) :=
  (jUt N).bind fun v1 => (bif (!((jJy .lss x1.Op 0) || (jJy .geq x1.Op (List.length v1 : Int)))) then (jUg N x1.At) else some false).bind fun v2 => bif (((jJy .lss x1.Op 0) || (jJy .geq x1.Op (List.length v1 : Int))) || (!v2)) then (some (g0, g0_2, g0_3, g0_4, [], 2)) else (bif (jJy .lss x1.At g0.now) then (some (g0, g0_2, g0_3, g0_4, [], 10)) else ((jZr N ({ g0 with now := x1.At } : jJq) g0_2 g0_3 g0_4).bind fun v3 => (idx v1 x1.Op).bind fun v4 => ((bif (!(List.isEmpty v4.states)) then ((jV3 N (({ g0 with now := x1.At } : jJq).plan) x1.Name).bind fun v5 => bif (!v5.2) then (some (Sum.inr ([], 6))) else ((jQd N ({ g0 with now := x1.At } : jJq) v3 g0_3 g0_4 x1.Name v4.states).bind fun v6 => bif (!v6) then (some (Sum.inr ([], 18))) else (some (Sum.inl ())))) else (some (Sum.inl ()))) : Option (Unit ⊕ ((List Str) × Int))).bind fun o10 => Sum.elim (fun l12 => (jL9 N ({ g0 with now := x1.At } : jJq) v3 g0_3 g0_4 v4.do_ x1).bind fun v14 => bif (jJy .neq v14.2.2.2.e 0) then (some (({ g0 with now := x1.At } : jJq), v14.1, v14.2.1, v14.2.2.1, v14.2.2.2.names, v14.2.2.2.e)) else ((jZr N ({ g0 with now := x1.At } : jJq) v14.1 v14.2.1 v14.2.2.1).bind fun v15 => (app (({ g0 with now := x1.At } : jJq).done) [x1]).bind fun v16 => some (({ ({ g0 with now := x1.At } : jJq) with done := v16 } : jJq), v15, v14.2.1, v14.2.2.1, [], 0))) (fun r13 => some (({ g0 with now := x1.At } : jJq), v3, g0_3, g0_4, r13.1, r13.2)) o10))
def jHx (N : Nat) : Option (Bool) :=
  (jBa N).bind fun v1 => (jD4 N v1 ([100, 101, 99, 107] : Str) ([104, 111, 108, 100] : Str)).bind fun v2 => (jKs N v1).bind fun v3 => jCx v3 (fun v3e => (jU7 N (none : (Option (jJq × Value × Value × Value))) (⟨0, 1, ([119, 101, 108, 100] : Str), [], ([97, 110, 110] : Str), 0, 0, 0⟩ : GEvent)).bind fun v4 => (jU7 N (none : (Option (jJq × Value × Value × Value))) (⟨0, 2, ([119, 101, 108, 100] : Str), [], ([98, 111, 98] : Str), 0, 0, 0⟩ : GEvent)).bind fun v5 => (bif (((((jJy .eql v2.2 0) && (jJy .eql v2.1 2)) && (jJy .eql v3e 0)) && (jJy .eql v4.2 0)) && (jJy .eql v5.2 21)) then (jDv N v5.1 [([116, 97, 110, 107] : Str)]) else some false).bind fun v6 => some ((((((jJy .eql v2.2 0) && (jJy .eql v2.1 2)) && (jJy .eql v3e 0)) && (jJy .eql v4.2 0)) && (jJy .eql v5.2 21)) && v6)) (fun v3o v3e => (jVb N v3o.1 v3o.2.1 v3o.2.2.1 v3o.2.2.2 (⟨0, 1, ([119, 101, 108, 100] : Str), [], ([97, 110, 110] : Str), 0, 0, 0⟩ : GEvent)).bind fun v12 => (jVb N v12.1 v12.2.1 v12.2.2.1 v12.2.2.2.1 (⟨0, 2, ([119, 101, 108, 100] : Str), [], ([98, 111, 98] : Str), 0, 0, 0⟩ : GEvent)).bind fun v13 => (bif (((((jJy .eql v2.2 0) && (jJy .eql v2.1 2)) && (jJy .eql v3e 0)) && (jJy .eql v12.2.2.2.2.2 0)) && (jJy .eql v13.2.2.2.2.2 21)) then (jDv N v13.2.2.2.2.1 [([116, 97, 110, 107] : Str)]) else some false).bind fun v14 => some ((((((jJy .eql v2.2 0) && (jJy .eql v2.1 2)) && (jJy .eql v3e 0)) && (jJy .eql v12.2.2.2.2.2 0)) && (jJy .eql v13.2.2.2.2.2 21)) && v14))
def jWe (N : Nat) (g0 : jJq) (g0_2 : (List (Str × jJj))) (g0_3 : (List (Str × jJz))) (g0_4 : (List (Str × Str))) (x1 : Str) : Option (Int × Int) :=
  bif (!(jY7 g0_2 x1)) then (some (0, 6)) else (some ((jX4 (⟨0, [], 0⟩ : jJj) g0_2 x1).state, 0))
def jWh (N : Nat) (g0 : jJq) (g0_2 : (List (Str × jJj))) (g0_3 : (List (Str × jJz))) (g0_4 : (List (Str × Str))) : Option Int :=
  some g0.now
def jV0 (N : Nat) (x0 : GPermitPlan) (x1 : (List GEvent)) (s11 : ((List Int) × Int × Int × jJq × (List (Str × jJj)) × (List (Str × jJz)) × (List (Str × Str)))) (v13 : (jJq × (List (Str × jJj)) × (List (Str × jJz)) × (List (Str × Str)) × (List Str) × Int)) (s14 : ((List Int) × Int)) : Option (((List Int) × Int) ⊕ ((List Int) ⊕ Bool)) :=
  bif (jJy .lss s14.2 (List.length x0.Permits : Int)) then ((idx x0.Permits s14.2).bind fun v15 => (jWe N v13.1 v13.2.1 v13.2.2.1 v13.2.2.2.1 v15.Name).bind fun v16 => (bif (!(((jJy .neq v16.2 0) || (jJy .lss v16.1 0)) || (jJy .gtr v16.1 6))) then (idx s14.1 s14.2) else some 0).bind fun v17 => (bif ((!(((jJy .neq v16.2 0) || (jJy .lss v16.1 0)) || (jJy .gtr v16.1 6))) && (jJy .geq v17 4)) then (idx s14.1 s14.2) else some 0).bind fun v18 => bif ((((jJy .neq v16.2 0) || (jJy .lss v16.1 0)) || (jJy .gtr v16.1 6)) || ((jJy .geq v17 4) && (jJy .neq v16.1 v18))) then (some (.inr (Sum.inr false))) else ((idx x1 s11.2.2.1).bind fun v19 => (bif (!(jJy .eql v19.Op 2)) then (idx x1 s11.2.2.1) else some (⟨0, 0, [], [], [], 0, 0, 0⟩ : GEvent)).bind fun v20 => (bif ((jJy .eql v19.Op 2) || (jJy .eql v20.Op 4)) then (idx x1 s11.2.2.1) else some (⟨0, 0, [], [], [], 0, 0, 0⟩ : GEvent)).bind fun v21 => (bif ((jJy .eql v19.Op 2) || (jJy .eql v20.Op 4)) then (idx x0.Permits s14.2) else some (⟨[], 0, [], 0, 0, []⟩ : jJg)).bind fun v22 => (bif (jJy .eql v16.1 2) then (idx s14.1 s14.2) else some 0).bind fun v23 => bif (((jJy .eql v16.1 2) && (jJy .neq v23 2)) && (!((((jJy .eql v19.Op 2) || (jJy .eql v20.Op 4)) && (jKe .eql v21.Name v22.Name)) && (jJy .eql v13.2.2.2.2.2 0)))) then (some (.inr (Sum.inr false))) else ((idx s14.1 s14.2).bind fun v24 => some (.inl ((List.set s14.1 (Int.toNat s14.2) v16.1), (IntKind.i64.wrap (s14.2 + 1))))))) else (some (.inr (Sum.inl s14.1)))
def jVa (N : Nat) (x0 : GPermitPlan) (x1 : (List GEvent)) (s11 : ((List Int) × Int × Int × jJq × (List (Str × jJj)) × (List (Str × jJz)) × (List (Str × Str)))) : Option (((List Int) × Int × Int × jJq × (List (Str × jJj)) × (List (Str × jJz)) × (List (Str × Str))) ⊕ ((jJq × (List (Str × jJj)) × (List (Str × jJz)) × (List (Str × Str))) ⊕ (Bool × jJq × (List (Str × jJj)) × (List (Str × jJz)) × (List (Str × Str))))) :=
  bif (jJy .lss s11.2.2.1 (List.length x1 : Int)) then ((idx x1 s11.2.2.1).bind fun v12 => (jVb N s11.2.2.2.1 s11.2.2.2.2.1 s11.2.2.2.2.2.1 s11.2.2.2.2.2.2 v12).bind fun v13 => (jXm (jV0 N x0 x1 s11 v13) N (s11.1, 0)).bind fun o28 => Sum.elim (fun l30 => (jWh N v13.1 v13.2.1 v13.2.2.1 v13.2.2.2.1).bind fun v32 => bif (jJy .lss v32 s11.2.1) then (some (.inr (Sum.inr (false, v13.1, v13.2.1, v13.2.2.1, v13.2.2.2.1)))) else ((jWh N v13.1 v13.2.1 v13.2.2.1 v13.2.2.2.1).bind fun v33 => some (.inl (l30, v33, (IntKind.i64.wrap (s11.2.2.1 + 1)), v13.1, v13.2.1, v13.2.2.1, v13.2.2.2.1)))) (fun r31 => some (.inr (Sum.inr (r31, v13.1, v13.2.1, v13.2.2.1, v13.2.2.2.1)))) o28) else (some (.inr (Sum.inl (s11.2.2.2.1, s11.2.2.2.2.1, s11.2.2.2.2.2.1, s11.2.2.2.2.2.2))))
def jU6 (N : Nat) (x0 : GPermitPlan) (x1 : (List GEvent)) : Option (Bool) :=
  (jHf N x0).bind fun v1 => bif ((!v1) || (jJy .gtr (List.length x1 : Int) 30)) then ((jHx N).bind fun v2 => some v2) else ((jKs N x0).bind fun v3 => jCx v3 (fun v3e => some false) (fun v3o v3e => bif (false || (jJy .neq v3e 0)) then (some false) else ((mk 0 (List.length x0.Permits : Int) (List.length x0.Permits : Int)).bind fun v10 => (jXm (jVa N x0 x1) N (v10, 0, 0, v3o.1, v3o.2.1, v3o.2.2.1, v3o.2.2.2)).bind fun o37 => Sum.elim (fun l39 => (jHx N).bind fun v41 => some v41) (fun r40 => some r40.1) o37)))
end
end Go.KB
