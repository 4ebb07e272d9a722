/- The functions as plain Lean functions. Printed by a program. No condition. -/
import Derived.Test.YtekbfkfjhgfieaaGreatGTypes
import Derived.Test.YtekbfkfjhgfieaaGreatKSos
namespace Go.KB
set_option linter.unusedVariables false
noncomputable section
def jYg (N : Nat) (x0 : GPermitPlan) (s10 : Int) : Option (Int ⊕ (Unit ⊕ Bool)) :=
  bif (jJy .lss s10 (List.length x0.Permits : Int)) then ((idx x0.Permits s10).bind fun v11 => (bif (!(jJy .gtr (List.length v11.Locks : Int) 20)) then (idx x0.Permits s10) else some (⟨[], 0, [], 0, 0, []⟩ : jJu)).bind fun v12 => bif ((jJy .gtr (List.length v11.Locks : Int) 20) || (jJy .gtr (List.length v12.Name : Int) 40)) then (some (.inr (Sum.inr true))) else (some (.inl (IntKind.i64.wrap (s10 + 1))))) else (some (.inr (Sum.inl ())))
def jYb (N : Nat) (x0 : GPermitPlan) (s1 : Int) : Option (Int ⊕ (Unit ⊕ Bool)) :=
  bif (jJy .lss s1 (List.length x0.Spaces : Int)) then ((idx x0.Spaces s1).bind fun v2 => (bif (!(jJy .gtr (List.length v2.Next : Int) 40)) then (idx x0.Spaces s1) else some (⟨[], false, []⟩ : jJ5)).bind fun v3 => bif ((jJy .gtr (List.length v2.Next : Int) 40) || (jJy .gtr (List.length v3.Name : Int) 40)) then (some (.inr (Sum.inr true))) else (some (.inl (IntKind.i64.wrap (s1 + 1))))) else (some (.inr (Sum.inl ())))
def jG1 (N : Nat) (x0 : GPermitPlan) : Option (Bool) :=
  bif (((jJy .gtr (List.length x0.Spaces : Int) 40) || (jJy .gtr (List.length x0.Exclusions : Int) 40)) || (jJy .gtr (List.length x0.Permits : Int) 30)) then (some true) else ((jXh (jYb N x0) N 0).bind fun o6 => Sum.elim (fun l8 => (jXh (jYg N x0) N 0).bind fun o15 => Sum.elim (fun l17 => some false) (fun r18 => some r18) o15) (fun r9 => some r9) o6)
def jBl (N : Nat) (x0 : Str) (s1 : Int) : Option (Int ⊕ (Unit ⊕ Bool)) :=
  bif (jJy .lss s1 (List.length x0 : Int)) then ((idx x0 s1).bind fun v2 => bif ((!(((jJy .geq ((UInt8.toNat v2 : Nat) : Int) 97) && (jJy .leq ((UInt8.toNat v2 : Nat) : Int) 122)) || ((jJy .geq ((UInt8.toNat v2 : Nat) : Int) 65) && (jJy .leq ((UInt8.toNat v2 : Nat) : Int) 90)))) && ((jJy .eql s1 0) || ((jJy .neq ((UInt8.toNat v2 : Nat) : Int) 45) && ((jJy .lss ((UInt8.toNat v2 : Nat) : Int) 48) || (jJy .gtr ((UInt8.toNat v2 : Nat) : Int) 57))))) then (some (.inr (Sum.inr false))) else (some (.inl (IntKind.i64.wrap (s1 + 1))))) else (some (.inr (Sum.inl ())))
def jHn (N : Nat) (x0 : Str) : Option (Bool) :=
  bif ((jJy .lss (List.length x0 : Int) 1) || (jJy .gtr (List.length x0 : Int) 12)) then (some false) else ((jXh (jBl N x0) N 0).bind fun o5 => Sum.elim (fun l7 => some true) (fun r8 => some r8) o5)
def jU4 (N : Nat) (x0 : GPermitPlan) (x1 : Str) (s1 : Int) : Option (Int ⊕ (Unit ⊕ Int)) :=
  bif (jJy .lss s1 (List.length x0.Spaces : Int)) then ((idx x0.Spaces s1).bind fun v2 => bif (jUx .eql v2.Name x1) then (some (.inr (Sum.inr s1))) else (some (.inl (IntKind.i64.wrap (s1 + 1))))) else (some (.inr (Sum.inl ())))
def jUc (N : Nat) (x0 : GPermitPlan) (x1 : Str) : Option (Int) :=
  (jXh (jU4 N x0 x1) N 0).bind fun o5 => Sum.elim (fun l7 => some (-1)) (fun r8 => some r8) o5
def jGj (N : Nat) (x0 : GPermitPlan) (x1 : Int) (x2 : Str) : Option (Bool) :=
  (jUc N x0 x2).bind fun v1 => some ((jJy .geq v1 0) && (jJy .lss v1 x1))
def jWk (N : Nat) (x0 : GPermitPlan) (s15 : Int) (s16 : Int) : Option (Int ⊕ (Unit ⊕ Int)) :=
  (idx x0.Spaces s15).bind fun v17 => bif (jJy .lss s16 (List.length v17.Next : Int)) then ((idx x0.Spaces s15).bind fun v18 => (idx v18.Next s16).bind fun v19 => (jUc N x0 v19).bind fun v20 => bif (jJy .lss v20 0) then (some (.inr (Sum.inr 6))) else ((idx x0.Spaces s15).bind fun v21 => (idx v21.Next s16).bind fun v22 => (idx x0.Spaces s15).bind fun v23 => bif (jUx .eql v22 v23.Name) then (some (.inr (Sum.inr 3))) else (some (.inl (IntKind.i64.wrap (s16 + 1)))))) else (some (.inr (Sum.inl ())))
def jWy (N : Nat) (x0 : GPermitPlan) (s15 : Int) : Option (Int ⊕ (Unit ⊕ Int)) :=
  bif (jJy .lss s15 (List.length x0.Spaces : Int)) then ((jXh (jWk N x0 s15) N 0).bind fun o27 => Sum.elim (fun l29 => some (.inl (IntKind.i64.wrap (s15 + 1)))) (fun r30 => some (.inr (Sum.inr r30))) o27) else (some (.inr (Sum.inl ())))
def jWw (N : Nat) (x0 : GPermitPlan) (s1 : Int) : Option (Int ⊕ (Unit ⊕ Int)) :=
  bif (jJy .lss s1 (List.length x0.Spaces : Int)) then ((idx x0.Spaces s1).bind fun v2 => (jHn N v2.Name).bind fun v3 => bif (!v3) then (some (.inr (Sum.inr 4))) else ((idx x0.Spaces s1).bind fun v4 => (jGj N x0 s1 v4.Name).bind fun v5 => bif v5 then (some (.inr (Sum.inr 5))) else ((idx x0.Spaces s1).bind fun v6 => bif (jJy .gtr (List.length v6.Next : Int) 30) then (some (.inr (Sum.inr 8))) else (some (.inl (IntKind.i64.wrap (s1 + 1))))))) else (some (.inr (Sum.inl ())))
def jKn (N : Nat) (x0 : GPermitPlan) : Option (Int) :=
  (jXh (jWw N x0) N 0).bind fun o11 => Sum.elim (fun l13 => (jXh (jWy N x0) N 0).bind fun o33 => Sum.elim (fun l35 => some 0) (fun r36 => some r36) o33) (fun r14 => some r14) o11
def jHg (N : Nat) (x0 : Int) : Option (Bool) :=
  some ((jJy .geq x0 0) && (jJy .leq x0 5))
def jUv (N : Nat) (x0 : GPermitPlan) (x1 : Str) (s1 : Int) : Option (Int ⊕ (Unit ⊕ Int)) :=
  bif (jJy .lss s1 (List.length x0.Permits : Int)) then ((idx x0.Permits s1).bind fun v2 => bif (jUx .eql v2.Name x1) then (some (.inr (Sum.inr s1))) else (some (.inl (IntKind.i64.wrap (s1 + 1))))) else (some (.inr (Sum.inl ())))
def jK5 (N : Nat) (x0 : GPermitPlan) (x1 : Str) : Option (Int) :=
  (jXh (jUv N x0 x1) N 0).bind fun o5 => Sum.elim (fun l7 => some (-1)) (fun r8 => some r8) o5
def jYk (N : Nat) (x0 : GPermitPlan) (v29 : jJu) (s30 : Int) : Option (Int ⊕ (Unit ⊕ Int)) :=
  bif (jJy .lss s30 (List.length v29.Locks : Int)) then ((idx v29.Locks s30).bind fun v31 => (jK5 N x0 v31).bind fun v32 => bif (jJy .lss v32 0) then (some (.inr (Sum.inr 6))) else ((idx x0.Permits v32).bind fun v33 => bif ((jJy .neq v33.Kind 5) || (jJy .eql v29.Kind 5)) then (some (.inr (Sum.inr 3))) else (some (.inl (IntKind.i64.wrap (s30 + 1)))))) else (some (.inr (Sum.inl ())))
def jYv (N : Nat) (x0 : GPermitPlan) (s28 : Int) : Option (Int ⊕ (Unit ⊕ Int)) :=
  bif (jJy .lss s28 (List.length x0.Permits : Int)) then ((idx x0.Permits s28).bind fun v29 => (jXh (jYk N x0 v29) N 0).bind fun o37 => Sum.elim (fun l39 => some (.inl (IntKind.i64.wrap (s28 + 1)))) (fun r40 => some (.inr (Sum.inr r40))) o37) else (some (.inr (Sum.inl ())))
def jYu (N : Nat) (x0 : GPermitPlan) (s12 : Int) : Option (Int ⊕ (Unit ⊕ Int)) :=
  bif (jJy .lss s12 (List.length x0.Permits : Int)) then ((idx x0.Permits s12).bind fun v13 => (jHn N v13.Name).bind fun v14 => bif (!v14) then (some (.inr (Sum.inr 4))) else ((jK5 N x0 v13.Name).bind fun v15 => bif (jJy .lss v15 s12) then (some (.inr (Sum.inr 5))) else ((jHg N v13.Kind).bind fun v16 => bif ((((!v16) || (jJy .lss v13.From 0)) || (jJy .geq v13.From v13.To)) || (jJy .gtr v13.To 1000000)) then (some (.inr (Sum.inr 2))) else ((jUc N x0 v13.Space).bind fun v17 => bif (jJy .lss v17 0) then (some (.inr (Sum.inr 6))) else (bif (jJy .gtr (List.length v13.Locks : Int) 10) then (some (.inr (Sum.inr 8))) else (some (.inl (IntKind.i64.wrap (s12 + 1))))))))) else (some (.inr (Sum.inl ())))
def jUj (N : Nat) (x0 : GPermitPlan) (s2 : Int) : Option (Int ⊕ (Unit ⊕ Int)) :=
  bif (jJy .lss s2 (List.length x0.Exclusions : Int)) then ((idx x0.Exclusions s2).bind fun v3 => (jHg N v3.A).bind fun v4 => (bif (!(!v4)) then (jHg N v3.B) else some false).bind fun v5 => bif ((((!v4) || (!v5)) || (jJy .lss v3.Reach 0)) || (jJy .gtr v3.Reach 2)) then (some (.inr (Sum.inr 2))) else (some (.inl (IntKind.i64.wrap (s2 + 1))))) else (some (.inr (Sum.inl ())))
def jUb (N : Nat) (x0 : GPermitPlan) : Option (Int) :=
  bif (((jJy .gtr (List.length x0.Spaces : Int) 30) || (jJy .gtr (List.length x0.Exclusions : Int) 30)) || (jJy .gtr (List.length x0.Permits : Int) 20)) then (some 8) else (bif ((jJy .lss x0.GasMinutes 1) || (jJy .gtr x0.GasMinutes 10000)) then (some 2) else ((jKn N x0).bind fun v1 => bif (jJy .neq v1 0) then (some v1) else ((jXh (jUj N x0) N 0).bind fun o8 => Sum.elim (fun l10 => (jXh (jYu N x0) N 0).bind fun o24 => Sum.elim (fun l26 => (jXh (jYv N x0) N 0).bind fun o43 => Sum.elim (fun l45 => some 0) (fun r46 => some r46) o43) (fun r27 => some r27) o24) (fun r11 => some r11) o8)))
def jHw (N : Nat) (x0 : GPermitPlan) : Option (Bool) :=
  (jG1 N x0).bind fun v1 => (bif (!v1) then (jUb N x0) else some 0).bind fun v2 => some (((((!v1) && (jJy .eql v2 0)) && (jJy .leq (List.length x0.Spaces : Int) 8)) && (jJy .leq (List.length x0.Permits : Int) 8)) && (jJy .leq (List.length x0.Exclusions : Int) 12))
def jBn (N : Nat) : Option ((List jJt)) :=
  some [(⟨0, 2, 1⟩ : jJt), (⟨3, 0, 1⟩ : jJt), (⟨3, 1, 1⟩ : jJt), (⟨3, 2, 1⟩ : jJt), (⟨3, 3, 1⟩ : jJt), (⟨4, 4, 0⟩ : jJt)]
def jDu (N : Nat) : Option (GPermitPlan) :=
  (jBn N).bind fun v1 => some (⟨[(⟨([100, 101, 99, 107] : Str), false, [([116, 97, 110, 107] : Str)]⟩ : jJ5), (⟨([116, 97, 110, 107] : Str), true, []⟩ : jJ5), (⟨([104, 111, 108, 100] : Str), true, [([116, 97, 110, 107] : Str)]⟩ : jJ5)], v1, [(⟨([119, 101, 108, 100] : Str), 0, ([100, 101, 99, 107] : Str), 0, 600, []⟩ : jJu), (⟨([103, 111] : Str), 1, ([116, 97, 110, 107] : Str), 0, 600, [([112, 117, 109, 112] : Str)]⟩ : jJu), (⟨([112, 97, 105, 110, 116] : Str), 2, ([104, 111, 108, 100] : Str), 0, 600, []⟩ : jJu), (⟨([112, 117, 109, 112] : Str), 5, ([116, 97, 110, 107] : Str), 0, 600, []⟩ : jJu)], 60⟩ : GPermitPlan)
def jGh (N : Nat) (x0 : Int) : Option (Bool) :=
  some (((jJy .geq x0 97) && (jJy .leq x0 122)) || ((jJy .geq x0 65) && (jJy .leq x0 90)))
def jKx (N : Nat) (x0 : Str) (s3 : Int) : Option (Int ⊕ (Unit ⊕ Bool)) :=
  bif (jJy .lss s3 (List.length x0 : Int)) then ((idx x0 s3).bind fun v4 => (jGh N ((UInt8.toNat v4 : Nat) : Int)).bind fun v5 => bif (((!v5) && (jJy .neq ((UInt8.toNat v4 : Nat) : Int) 45)) && ((jJy .lss ((UInt8.toNat v4 : Nat) : Int) 48) || (jJy .gtr ((UInt8.toNat v4 : Nat) : Int) 57))) then (some (.inr (Sum.inr false))) else (some (.inl (IntKind.i64.wrap (s3 + 1))))) else (some (.inr (Sum.inl ())))
def jYj (N : Nat) (x0 : Str) : Option (Bool) :=
  (bif (!((jJy .lss (List.length x0 : Int) 1) || (jJy .gtr (List.length x0 : Int) 12))) then (idx x0 0) else some 0).bind fun v1 => (bif (!((jJy .lss (List.length x0 : Int) 1) || (jJy .gtr (List.length x0 : Int) 12))) then (jGh N ((UInt8.toNat v1 : Nat) : Int)) else some false).bind fun v2 => bif (((jJy .lss (List.length x0 : Int) 1) || (jJy .gtr (List.length x0 : Int) 12)) || (!v2)) then (some false) else ((jXh (jKx N x0) N 0).bind fun o8 => Sum.elim (fun l10 => some true) (fun r11 => some r11) o8)
def jV7 (N : Nat) (l10 : (List (Str × Bool))) (v13 : jJ5) (s14 : Int) : Option (Int ⊕ (Unit ⊕ Int)) :=
  bif (jJy .lss s14 (List.length v13.Next : Int)) then ((idx v13.Next s14).bind fun v15 => bif (!(jZj false l10 v15)) then (some (.inr (Sum.inr 6))) else (bif (jUx .eql v15 v13.Name) then (some (.inr (Sum.inr 3))) else (some (.inl (IntKind.i64.wrap (s14 + 1)))))) else (some (.inr (Sum.inl ())))
def jV8 (N : Nat) (x0 : GPermitPlan) (l10 : (List (Str × Bool))) (s12 : Int) : Option (Int ⊕ (Unit ⊕ Int)) :=
  bif (jJy .lss s12 (List.length x0.Spaces : Int)) then ((idx x0.Spaces s12).bind fun v13 => (jXh (jV7 N l10 v13) N 0).bind fun o19 => Sum.elim (fun l21 => some (.inl (IntKind.i64.wrap (s12 + 1)))) (fun r22 => some (.inr (Sum.inr r22))) o19) else (some (.inr (Sum.inl ())))
def jV9 (N : Nat) (x0 : GPermitPlan) (s1 : ((List (Str × Bool)) × Int)) : Option (((List (Str × Bool)) × Int) ⊕ ((List (Str × Bool)) ⊕ Int)) :=
  bif (jJy .lss s1.2 (List.length x0.Spaces : Int)) then ((idx x0.Spaces s1.2).bind fun v2 => (jYj N v2.Name).bind fun v3 => bif (!v3) then (some (.inr (Sum.inr 4))) else (bif (jZj false s1.1 v2.Name) then (some (.inr (Sum.inr 5))) else (bif (jJy .gtr (List.length v2.Next : Int) 30) then (some (.inr (Sum.inr 8))) else (some (.inl ((jHd s1.1 v2.Name true), (IntKind.i64.wrap (s1.2 + 1)))))))) else (some (.inr (Sum.inl s1.1)))
def jKw (N : Nat) (x0 : GPermitPlan) : Option (Int) :=
  (jXh (jV9 N x0) N (([] : (List (Str × Bool))), 0)).bind fun o8 => Sum.elim (fun l10 => (jXh (jV8 N x0 l10) N 0).bind fun o25 => Sum.elim (fun l27 => some 0) (fun r28 => some r28) o25) (fun r11 => some r11) o8
def jG3 (N : Nat) (x0 : Int) : Option (Bool) :=
  some ((jJy .geq x0 0) && (jJy .leq x0 5))
def jY8 (N : Nat) (x0 : jJ5) (c0 : Str) : Option (Bool) :=
  some (jUx .eql x0.Name c0)
def jX4 (N : Nat) (x0 : (List jJ5)) (x1 : (jJ5 → Option Bool)) (s1 : Int) : Option (Int ⊕ (Unit ⊕ Int)) :=
  bif (jJy .lss s1 (List.length x0 : Int)) then ((idx x0 s1).bind fun v2 => (x1 v2).bind fun v3 => bif v3 then (some (.inr (Sum.inr s1))) else (some (.inl (IntKind.i64.wrap (s1 + 1))))) else (some (.inr (Sum.inl ())))
def jZz (N : Nat) (x0 : (List jJ5)) (x1 : (jJ5 → Option Bool)) : Option (Int) :=
  (jXh (jX4 N x0 x1) N 0).bind fun o6 => Sum.elim (fun l8 => some (-1)) (fun r9 => some r9) o6
def jXl (N : Nat) (x0 : GPermitPlan) (x1 : Str) : Option (jJ5 × Bool) :=
  (jZz N x0.Spaces (fun y0 => jY8 N y0 x1)).bind fun v1 => bif (jJy .lss v1 0) then (some ((⟨[], false, []⟩ : jJ5), false)) else ((idx x0.Spaces v1).bind fun v2 => some (v2, true))
def jYp (N : Nat) (x0 : jJu) (c0 : Str) : Option (Bool) :=
  some (jUx .eql x0.Name c0)
def jXt (N : Nat) (x0 : (List jJu)) (x1 : (jJu → Option Bool)) (s1 : Int) : Option (Int ⊕ (Unit ⊕ Int)) :=
  bif (jJy .lss s1 (List.length x0 : Int)) then ((idx x0 s1).bind fun v2 => (x1 v2).bind fun v3 => bif v3 then (some (.inr (Sum.inr s1))) else (some (.inl (IntKind.i64.wrap (s1 + 1))))) else (some (.inr (Sum.inl ())))
def jX7 (N : Nat) (x0 : (List jJu)) (x1 : (jJu → Option Bool)) : Option (Int) :=
  (jXh (jXt N x0 x1) N 0).bind fun o6 => Sum.elim (fun l8 => some (-1)) (fun r9 => some r9) o6
def jVg (N : Nat) (x0 : GPermitPlan) (x1 : Str) : Option (jJu × Bool) :=
  (jX7 N x0.Permits (fun y0 => jYp N y0 x1)).bind fun v1 => bif (jJy .lss v1 0) then (some ((⟨[], 0, [], 0, 0, []⟩ : jJu), false)) else ((idx x0.Permits v1).bind fun v2 => some (v2, true))
def jVc (N : Nat) (x0 : GPermitPlan) (v17 : jJu) (s18 : Int) : Option (Int ⊕ (Unit ⊕ Int)) :=
  bif (jJy .lss s18 (List.length v17.Locks : Int)) then ((idx v17.Locks s18).bind fun v19 => (jVg N x0 v19).bind fun v20 => bif (!v20.2) then (some (.inr (Sum.inr 6))) else (bif ((jJy .neq v20.1.Kind 5) || (jJy .eql v17.Kind 5)) then (some (.inr (Sum.inr 3))) else (some (.inl (IntKind.i64.wrap (s18 + 1)))))) else (some (.inr (Sum.inl ())))
def jVs (N : Nat) (x0 : GPermitPlan) (s16 : Int) : Option (Int ⊕ (Unit ⊕ Int)) :=
  bif (jJy .lss s16 (List.length x0.Permits : Int)) then ((idx x0.Permits s16).bind fun v17 => (jXh (jVc N x0 v17) N 0).bind fun o24 => Sum.elim (fun l26 => some (.inl (IntKind.i64.wrap (s16 + 1)))) (fun r27 => some (.inr (Sum.inr r27))) o24) else (some (.inr (Sum.inl ())))
def jVe (N : Nat) (x0 : GPermitPlan) (s1 : ((List (Str × Bool)) × Int)) : Option (((List (Str × Bool)) × Int) ⊕ (Unit ⊕ Int)) :=
  bif (jJy .lss s1.2 (List.length x0.Permits : Int)) then ((idx x0.Permits s1.2).bind fun v2 => (jXl N x0 v2.Space).bind fun v3 => (jYj N v2.Name).bind fun v4 => bif (!v4) then (some (.inr (Sum.inr 4))) else (bif (jZj false s1.1 v2.Name) then (some (.inr (Sum.inr 5))) else ((jG3 N v2.Kind).bind fun v5 => bif ((((!v5) || (jJy .lss v2.From 0)) || (jJy .geq v2.From v2.To)) || (jJy .gtr v2.To 1000000)) then (some (.inr (Sum.inr 2))) else (bif (!v3.2) then (some (.inr (Sum.inr 6))) else (bif (jJy .gtr (List.length v2.Locks : Int) 10) then (some (.inr (Sum.inr 8))) else (some (.inl ((jHd s1.1 v2.Name true), (IntKind.i64.wrap (s1.2 + 1)))))))))) else (some (.inr (Sum.inl ())))
def jY3 (N : Nat) (x0 : GPermitPlan) : Option (Int) :=
  (jXh (jVe N x0) N (([] : (List (Str × Bool))), 0)).bind fun o12 => Sum.elim (fun l14 => (jXh (jVs N x0) N 0).bind fun o30 => Sum.elim (fun l32 => some 0) (fun r33 => some r33) o30) (fun r15 => some r15) o12
def jWn (N : Nat) (x0 : GPermitPlan) (s2 : Int) : Option (Int ⊕ (Unit ⊕ Int)) :=
  bif (jJy .lss s2 (List.length x0.Exclusions : Int)) then ((idx x0.Exclusions s2).bind fun v3 => (jG3 N v3.A).bind fun v4 => (bif (!(!v4)) then (jG3 N v3.B) else some false).bind fun v5 => bif ((((!v4) || (!v5)) || (jJy .lss v3.Reach 0)) || (jJy .gtr v3.Reach 2)) then (some (.inr (Sum.inr 2))) else (some (.inl (IntKind.i64.wrap (s2 + 1))))) else (some (.inr (Sum.inl ())))
def jW3 (N : Nat) (x0 : GPermitPlan) : Option (Int) :=
  bif (((jJy .gtr (List.length x0.Spaces : Int) 30) || (jJy .gtr (List.length x0.Exclusions : Int) 30)) || (jJy .gtr (List.length x0.Permits : Int) 20)) then (some 8) else (bif ((jJy .lss x0.GasMinutes 1) || (jJy .gtr x0.GasMinutes 10000)) then (some 2) else ((jKw N x0).bind fun v1 => bif (jJy .neq v1 0) then (some v1) else ((jXh (jWn N x0) N 0).bind fun o8 => Sum.elim (fun l10 => (jY3 N x0).bind fun v12 => some v12) (fun r11 => some r11) o8)))
def jZf (N : Nat) (x0 : (List Str)) (x1 : Str) (s1 : Int) : Option (Int ⊕ (Unit ⊕ Int)) :=
  bif (jJy .lss s1 (List.length x0 : Int)) then ((idx x0 s1).bind fun v2 => bif (jUx .eql x1 v2) then (some (.inr (Sum.inr s1))) else (some (.inl (IntKind.i64.wrap (s1 + 1))))) else (some (.inr (Sum.inl ())))
def jWe (N : Nat) (x0 : (List Str)) (x1 : Str) : Option (Int) :=
  (jXh (jZf N x0 x1) N 0).bind fun o5 => Sum.elim (fun l7 => some (-1)) (fun r8 => some r8) o5
def jQ3 (N : Nat) (x0 : (List Str)) (x1 : Str) : Option (Bool) :=
  (jWe N x0 x1).bind fun v1 => some (jJy .geq v1 0)
def jYe (N : Nat) (x0 : GPermitPlan) (x1 : Str) (x2 : Str) : Option (Int) :=
  (jXl N x0 x1).bind fun v1 => (jXl N x0 x2).bind fun v2 => bif (jUx .eql x1 x2) then (some 0) else ((jQ3 N v1.1.Next x2).bind fun v3 => (bif (!v3) then (jQ3 N v2.1.Next x1) else some false).bind fun v4 => bif (v3 || v4) then (some 1) else (some 2))
def jFn (N : Nat) (x0 : GPermitPlan) (x1 : Str) (x2 : Str) : Option (Int × Int) :=
  (jW3 N x0).bind fun v1 => bif (jJy .neq v1 0) then (some (0, v1)) else ((jXl N x0 x1).bind fun v2 => (jXl N x0 x2).bind fun v3 => bif ((!v2.2) || (!v3.2)) then (some (0, 6)) else ((jYe N x0 x1 x2).bind fun v4 => some (v4, 0)))
def jXd (N : Nat) (x0 : (List jJ5)) : Option ((List jJ5)) :=
  (app ([] : (List jJ5)) x0).bind fun v1 => some v1
def jXc (N : Nat) (x0 : (List jJt)) : Option ((List jJt)) :=
  (app ([] : (List jJt)) x0).bind fun v1 => some v1
def jXq (N : Nat) (x0 : (List jJu)) : Option ((List jJu)) :=
  (app ([] : (List jJu)) x0).bind fun v1 => some v1
def jQc (N : Nat) (x0 : (List Str)) : Option ((List Str)) :=
  (app ([] : (List Str)) x0).bind fun v1 => some v1
def jW6 (N : Nat) (v3 : (List jJu)) (s14 : (Int × (List jJu))) : Option ((Int × (List jJu)) ⊕ (List jJu)) :=
  bif (jJy .lss s14.1 (List.length v3 : Int)) then ((idx s14.2 s14.1).bind fun v15 => (jQc N v15.Locks).bind fun v16 => (idx s14.2 s14.1).bind fun v17 => some (.inl ((IntKind.i64.wrap (s14.1 + 1)), (List.set s14.2 (Int.toNat s14.1) ({ v17 with Locks := v16 } : jJu))))) else (some (.inr s14.2))
def jW8 (N : Nat) (v1 : (List jJ5)) (s7 : (Int × (List jJ5))) : Option ((Int × (List jJ5)) ⊕ (List jJ5)) :=
  bif (jJy .lss s7.1 (List.length v1 : Int)) then ((idx s7.2 s7.1).bind fun v8 => (jQc N v8.Next).bind fun v9 => (idx s7.2 s7.1).bind fun v10 => some (.inl ((IntKind.i64.wrap (s7.1 + 1)), (List.set s7.2 (Int.toNat s7.1) ({ v10 with Next := v9 } : jJ5))))) else (some (.inr s7.2))
def jGs (N : Nat) (x0 : GPermitPlan) : Option (GPermitPlan) :=
  (jXd N x0.Spaces).bind fun v1 => (jXc N x0.Exclusions).bind fun v2 => (jXq N x0.Permits).bind fun v3 => (jXh (jW8 N v1) N (0, v1)).bind fun o12 => (jXh (jW6 N v3) N (0, v3)).bind fun o19 => some ({ ({ x0 with Exclusions := v2 } : GPermitPlan) with Spaces := o12, Permits := o19 } : GPermitPlan)
def jVu (N : Nat) (x0 : (List Int)) (x1 : Int) (s1 : Int) : Option (Int ⊕ (Unit ⊕ Int)) :=
  bif (jJy .lss s1 (List.length x0 : Int)) then ((idx x0 s1).bind fun v2 => bif (jJy .eql x1 v2) then (some (.inr (Sum.inr s1))) else (some (.inl (IntKind.i64.wrap (s1 + 1))))) else (some (.inr (Sum.inl ())))
def jKp (N : Nat) (x0 : (List Int)) (x1 : Int) : Option (Int) :=
  (jXh (jVu N x0 x1) N 0).bind fun o5 => Sum.elim (fun l7 => some (-1)) (fun r8 => some r8) o5
def jWu (N : Nat) (x0 : (List Int)) (x1 : Int) : Option (Bool) :=
  (jKp N x0 x1).bind fun v1 => some (jJy .geq v1 0)
def jQd (N : Nat) (g0 : jJq) (g0_2 : (List (Str × jJj))) (g0_3 : (List (Str × jJz))) (g0_4 : (List (Str × Str))) (x1 : Str) (x2 : (List Int)) : Option Bool :=
  (jWu N x2 ((jZj (⟨0, [], 0⟩ : jJj) g0_2 x1).state)).bind fun v1 => some v1
def jQg (N : Nat) (g0 : jJq) (g0_2 : (List (Str × jJj))) (g0_3 : (List (Str × jJz))) (g0_4 : (List (Str × Str))) (x1 : Str) (x2 : Int) : Option (List (Str × jJj)) :=
  some (jHd g0_2 x1 ({ (jZj (⟨0, [], 0⟩ : jJj) g0_2 x1) with state := x2 } : jJj))
def jWr (N : Nat) (x0 : GPermitPlan) (v1 : (jJ5 × Bool)) (s11 : ((List Str) × Int)) : Option (((List Str) × Int) ⊕ (List Str)) :=
  bif (jJy .lss s11.2 (List.length x0.Spaces : Int)) then ((idx x0.Spaces s11.2).bind fun v12 => (bif v12.Enclosed then (jYe N x0 v12.Name v1.1.Name) else some 0).bind fun v13 => bif (v12.Enclosed && (jJy .eql v13 1)) then ((app s11.1 [v12.Name]).bind fun v14 => some (.inl (v14, (IntKind.i64.wrap (s11.2 + 1))))) else (some (.inl (s11.1, (IntKind.i64.wrap (s11.2 + 1)))))) else (some (.inr s11.1))
def jKd (N : Nat) (x0 : GPermitPlan) (x1 : jJu) : Option ((List Str)) :=
  (jXl N x0 x1.Space).bind fun v1 => ((((bif (jJy .eql x1.Kind 0) then (some (jJy .eql x1.Kind 0)) else (bif (jJy .eql x1.Kind 1) then (some (jJy .eql x1.Kind 1)) else (some (jJy .eql x1.Kind 2)))) : Option Bool).bind fun o4 => bif o4 then (bif v1.1.Enclosed then ((app [] [v1.1.Name]).bind fun v6 => some v6) else (some [])) else (some [])) : Option (List Str)).bind fun o9 => bif (jJy .eql x1.Kind 0) then ((jXh (jWr N x0 v1) N (o9, 0)).bind fun o17 => some o17) else (some o9)
def jWv (N : Nat) (g0 : jJq) (g0_2 : (List (Str × jJj))) (g0_3 : (List (Str × jJz))) (g0_4 : (List (Str × Str))) (x1 : Str) : Option (Bool × Bool) :=
  (jXl N g0.plan x1).bind fun v1 => bif (!v1.1.Enclosed) then (some (true, true)) else (some ((((((jKs g0_3 x1) && (jJy .leq (IntKind.i64.wrap (g0.now - ((jZj (⟨0, 0, 0⟩ : jJz) g0_3 x1).at_))) g0.plan.GasMinutes)) && (jJy .geq ((jZj (⟨0, 0, 0⟩ : jJz) g0_3 x1).oxygen) 195)) && (jJy .leq ((jZj (⟨0, 0, 0⟩ : jJz) g0_3 x1).oxygen) 235)) && (jJy .leq ((jZj (⟨0, 0, 0⟩ : jJz) g0_3 x1).gas) 50)), ((((((jKs g0_3 x1) && (jJy .leq (IntKind.i64.wrap (g0.now - ((jZj (⟨0, 0, 0⟩ : jJz) g0_3 x1).at_))) g0.plan.GasMinutes)) && (jJy .geq ((jZj (⟨0, 0, 0⟩ : jJz) g0_3 x1).oxygen) 195)) && (jJy .leq ((jZj (⟨0, 0, 0⟩ : jJz) g0_3 x1).oxygen) 235)) && (jJy .leq ((jZj (⟨0, 0, 0⟩ : jJz) g0_3 x1).gas) 50)) && (jJy .leq ((jZj (⟨0, 0, 0⟩ : jJz) g0_3 x1).gas) 10))))
def jZ9 (N : Nat) (g0 : jJq) (g0_2 : (List (Str × jJj))) (g0_3 : (List (Str × jJz))) (g0_4 : (List (Str × Str))) (x0 : Str) (c1 : jJu) : Option Bool :=
  (jWv N g0 g0_2 g0_3 g0_4 x0).bind fun v1 => bif (jJy .eql c1.Kind 0) then (some v1.2) else (some v1.1)
def jQp (N : Nat) (g0 : jJq) (g0_2 : (List (Str × jJj))) (g0_3 : (List (Str × jJz))) (g0_4 : (List (Str × Str))) (x0 : (List Str)) (x1_1 : jJu) (s1 : Int) : Option (Int ⊕ (Unit ⊕ Int)) :=
  bif (jJy .lss s1 (List.length x0 : Int)) then ((idx x0 s1).bind fun v2 => (jZ9 N g0 g0_2 g0_3 g0_4 v2 x1_1).bind fun v3 => bif v3 then (some (.inr (Sum.inr s1))) else (some (.inl (IntKind.i64.wrap (s1 + 1))))) else (some (.inr (Sum.inl ())))
def jQt (N : Nat) (g0 : jJq) (g0_2 : (List (Str × jJj))) (g0_3 : (List (Str × jJz))) (g0_4 : (List (Str × Str))) (x0 : (List Str)) (x1_1 : jJu) : Option Int :=
  (jXh (jQp N g0 g0_2 g0_3 g0_4 x0 x1_1) N 0).bind fun o6 => Sum.elim (fun l8 => some (-1)) (fun r9 => some r9) o6
def jQl (N : Nat) (g0 : jJq) (g0_2 : (List (Str × jJj))) (g0_3 : (List (Str × jJz))) (g0_4 : (List (Str × Str))) (x1_1 : jJu) (s2 : ((List Str) × Int × Int)) : Option (((List Str) × Int × Int) ⊕ ((List Str) × Int)) :=
  bif (jJy .lss s2.2.2 (List.length s2.1 : Int)) then ((idx s2.1 s2.2.2).bind fun v3 => (jZ9 N g0 g0_2 g0_3 g0_4 v3 x1_1).bind fun v4 => bif (!v4) then ((idx s2.1 s2.2.1).bind fun v5 => some (.inl ((List.set s2.1 (Int.toNat s2.2.1) v3), (IntKind.i64.wrap (s2.2.1 + 1)), (IntKind.i64.wrap (s2.2.2 + 1))))) else (some (.inl (s2.1, s2.2.1, (IntKind.i64.wrap (s2.2.2 + 1)))))) else (some (.inr (s2.1, s2.2.1)))
def jQr (N : Nat) (g0 : jJq) (g0_2 : (List (Str × jJj))) (g0_3 : (List (Str × jJz))) (g0_4 : (List (Str × Str))) (x0 : (List Str)) (x1_1 : jJu) : Option (List Str) :=
  (jQt N g0 g0_2 g0_3 g0_4 x0 x1_1).bind fun v1 => bif (jJy .eql v1 (-1)) then (some x0) else ((jXh (jQl N g0 g0_2 g0_3 g0_4 x1_1) N (x0, v1, (IntKind.i64.wrap (v1 + 1)))).bind fun o8 => (slc o8.1 o8.2 (List.length o8.1 : Int)).bind fun v10 => (bif Nat.beq ((Int.toNat o8.2) + (Int.toNat (List.length o8.1 : Int) - Int.toNat o8.2)) (List.length o8.1) then some (List.take (Int.toNat o8.2) o8.1 ++ List.replicate (Int.toNat (List.length o8.1 : Int) - Int.toNat o8.2) []) else none).bind fun v11 => (slc v11 0 o8.2).bind fun v12 => some v12)
def jVb (N : Nat) (g0 : jJq) (g0_2 : (List (Str × jJj))) (g0_3 : (List (Str × jJz))) (g0_4 : (List (Str × Str))) (x1 : jJu) : Option (List Str) :=
  (jKd N g0.plan x1).bind fun v1 => (jQr N g0 g0_2 g0_3 g0_4 v1 x1).bind fun v2 => some v2
def jZg (N : Nat) (g0 : jJq) (g0_2 : (List (Str × jJj))) (g0_3 : (List (Str × jJz))) (g0_4 : (List (Str × Str))) (x0 : Str) : Option Bool :=
  (jQd N g0 g0_2 g0_3 g0_4 x0 [2]).bind fun v1 => some v1
def jQh (N : Nat) (g0 : jJq) (g0_2 : (List (Str × jJj))) (g0_3 : (List (Str × jJz))) (g0_4 : (List (Str × Str))) (x0 : (List Str)) (s1 : Int) : Option (Int ⊕ (Unit ⊕ Int)) :=
  bif (jJy .lss s1 (List.length x0 : Int)) then ((idx x0 s1).bind fun v2 => (jZg N g0 g0_2 g0_3 g0_4 v2).bind fun v3 => bif v3 then (some (.inr (Sum.inr s1))) else (some (.inl (IntKind.i64.wrap (s1 + 1))))) else (some (.inr (Sum.inl ())))
def jQs (N : Nat) (g0 : jJq) (g0_2 : (List (Str × jJj))) (g0_3 : (List (Str × jJz))) (g0_4 : (List (Str × Str))) (x0 : (List Str)) : Option Int :=
  (jXh (jQh N g0 g0_2 g0_3 g0_4 x0) N 0).bind fun o6 => Sum.elim (fun l8 => some (-1)) (fun r9 => some r9) o6
def jQk (N : Nat) (g0 : jJq) (g0_2 : (List (Str × jJj))) (g0_3 : (List (Str × jJz))) (g0_4 : (List (Str × Str))) (s2 : ((List Str) × Int × Int)) : Option (((List Str) × Int × Int) ⊕ ((List Str) × Int)) :=
  bif (jJy .lss s2.2.2 (List.length s2.1 : Int)) then ((idx s2.1 s2.2.2).bind fun v3 => (jZg N g0 g0_2 g0_3 g0_4 v3).bind fun v4 => bif (!v4) then ((idx s2.1 s2.2.1).bind fun v5 => some (.inl ((List.set s2.1 (Int.toNat s2.2.1) v3), (IntKind.i64.wrap (s2.2.1 + 1)), (IntKind.i64.wrap (s2.2.2 + 1))))) else (some (.inl (s2.1, s2.2.1, (IntKind.i64.wrap (s2.2.2 + 1)))))) else (some (.inr (s2.1, s2.2.1)))
def jQ9 (N : Nat) (g0 : jJq) (g0_2 : (List (Str × jJj))) (g0_3 : (List (Str × jJz))) (g0_4 : (List (Str × Str))) (x0 : (List Str)) : Option (List Str) :=
  (jQs N g0 g0_2 g0_3 g0_4 x0).bind fun v1 => bif (jJy .eql v1 (-1)) then (some x0) else ((jXh (jQk N g0 g0_2 g0_3 g0_4) N (x0, v1, (IntKind.i64.wrap (v1 + 1)))).bind fun o8 => (slc o8.1 o8.2 (List.length o8.1 : Int)).bind fun v10 => (bif Nat.beq ((Int.toNat o8.2) + (Int.toNat (List.length o8.1 : Int) - Int.toNat o8.2)) (List.length o8.1) then some (List.take (Int.toNat o8.2) o8.1 ++ List.replicate (Int.toNat (List.length o8.1 : Int) - Int.toNat o8.2) []) else none).bind fun v11 => (slc v11 0 o8.2).bind fun v12 => some v12)
def jZc (N : Nat) (g0 : jJq) (g0_2 : (List (Str × jJj))) (g0_3 : (List (Str × jJz))) (g0_4 : (List (Str × Str))) (x1 : jJu) : Option (List Str) :=
  (jQc N x1.Locks).bind fun v1 => (jQ9 N g0 g0_2 g0_3 g0_4 v1).bind fun v2 => some v2
def jZl (N : Nat) (g0 : jJq) (g0_3 : (List (Str × jJz))) (g0_4 : (List (Str × Str))) (s10 : (Bool × Int × (List (Str × jJj)))) : Option ((Bool × Int × (List (Str × jJj))) ⊕ (Bool × (List (Str × jJj)))) :=
  bif (jJy .lss s10.2.1 (List.length g0.plan.Permits : Int)) then ((idx g0.plan.Permits s10.2.1).bind fun v11 => (jQd N g0 s10.2.2 g0_3 g0_4 v11.Name [2]).bind fun v12 => (bif v12 then (jVb N g0 s10.2.2 g0_3 g0_4 v11) else some []).bind fun v13 => (bif (v12 && (!(jJy .gtr (List.length v13 : Int) 0))) then (jZc N g0 s10.2.2 g0_3 g0_4 v11) else some []).bind fun v14 => bif (v12 && ((jJy .gtr (List.length v13 : Int) 0) || (jJy .gtr (List.length v14 : Int) 0))) then ((jQg N g0 s10.2.2 g0_3 g0_4 v11.Name 3).bind fun v15 => some (.inl (true, (IntKind.i64.wrap (s10.2.1 + 1)), v15))) else (some (.inl (s10.1, (IntKind.i64.wrap (s10.2.1 + 1)), s10.2.2)))) else (some (.inr (s10.1, s10.2.2)))
def jZ8 (N : Nat) (g0 : jJq) (g0_3 : (List (Str × jJz))) (g0_4 : (List (Str × Str))) (s9 : (Bool × (List (Str × jJj)))) : Option ((Bool × (List (Str × jJj))) ⊕ (List (Str × jJj))) :=
  bif s9.1 then ((jXh (jZl N g0 g0_3 g0_4) N (false, 0, s9.2)).bind fun o18 => some (.inl (o18.1, o18.2))) else (some (.inr s9.2))
def jZ7 (N : Nat) (g0 : jJq) (g0_3 : (List (Str × jJz))) (g0_4 : (List (Str × Str))) (s1 : (Int × (List (Str × jJj)))) : Option ((Int × (List (Str × jJj))) ⊕ (List (Str × jJj))) :=
  bif (jJy .lss s1.1 (List.length g0.plan.Permits : Int)) then ((idx g0.plan.Permits s1.1).bind fun v2 => (jQd N g0 s1.2 g0_3 g0_4 v2.Name [0, 1, 2, 3]).bind fun v3 => bif (v3 && (jJy .leq ((jZj (⟨0, [], 0⟩ : jJj) s1.2 v2.Name).to_) g0.now)) then ((jQg N g0 s1.2 g0_3 g0_4 v2.Name 6).bind fun v4 => some (.inl ((IntKind.i64.wrap (s1.1 + 1)), v4))) else (some (.inl ((IntKind.i64.wrap (s1.1 + 1)), s1.2)))) else (some (.inr s1.2))
def jZp (N : Nat) (g0 : jJq) (g0_2 : (List (Str × jJj))) (g0_3 : (List (Str × jJz))) (g0_4 : (List (Str × Str))) : Option (List (Str × jJj)) :=
  (jXh (jZ7 N g0 g0_3 g0_4) N (0, g0_2)).bind fun o7 => (jXh (jZ8 N g0 g0_3 g0_4) N (true, o7)).bind fun o22 => some o22
def jWm (N : Nat) (x0 : GPermitPlan) (s7 : (Int × (List (Str × jJj)))) : Option ((Int × (List (Str × jJj))) ⊕ (List (Str × jJj))) :=
  bif (jJy .lss s7.1 (List.length x0.Permits : Int)) then ((idx x0.Permits s7.1).bind fun v8 => some (.inl ((IntKind.i64.wrap (s7.1 + 1)), (jHd s7.2 v8.Name (⟨0, [], v8.To⟩ : jJj))))) else (some (.inr s7.2))
def jK3 (N : Nat) (x0 : GPermitPlan) : Option ((Option (jJq × (List (Str × jJj)) × (List (Str × jJz)) × (List (Str × Str)))) × (Int)) :=
  (jW3 N x0).bind fun v1 => bif (jJy .neq v1 0) then (some (none, v1)) else ((jGs N x0).bind fun v2 => (jXh (jWm N x0) N (0, ([] : (List (Str × jJj))))).bind fun o10 => (jZp N (⟨v2, 0, []⟩ : jJq) o10 ([] : (List (Str × jJz))) ([] : (List (Str × Str)))).bind fun v12 => some ((some ((⟨v2, 0, []⟩ : jJq), v12, ([] : (List (Str × jJz))), ([] : (List (Str × Str))))), 0))
def jU9 (N : Nat) : Option ((List jJb)) :=
  some [(⟨([116, 105, 99, 107] : Str), ([] : Str), ([] : (List Int)), (some 125)⟩ : jJb), (⟨([97, 112, 112, 114, 111, 118, 101] : Str), ([110, 112] : Str), [0], (some 126)⟩ : jJb), (⟨([111, 112, 101, 110] : Str), ([110, 112] : Str), [1], (some 127)⟩ : jJb), (⟨([115, 117, 115, 112, 101, 110, 100] : Str), ([110] : Str), [2], (some 128)⟩ : jJb), (⟨([114, 101, 115, 117, 109, 101] : Str), ([110, 112] : Str), [3], (some 127)⟩ : jJb), (⟨([99, 108, 111, 115, 101] : Str), ([110] : Str), [2, 3], (some 129)⟩ : jJb), (⟨([99, 97, 110, 99, 101, 108] : Str), ([110] : Str), [0, 1], (some 130)⟩ : jJb), (⟨([103, 97, 115] : Str), ([115, 111, 103] : Str), ([] : (List Int)), (some 131)⟩ : jJb), (⟨([101, 110, 116, 101, 114] : Str), ([112, 115] : Str), ([] : (List Int)), (some 132)⟩ : jJb), (⟨([108, 101, 97, 118, 101] : Str), ([112] : Str), ([] : (List Int)), (some 133)⟩ : jJb), (⟨([97, 108, 97, 114, 109] : Str), ([115] : Str), ([] : (List Int)), (some 134)⟩ : jJb), (⟨([101, 120, 116, 101, 110, 100] : Str), ([110, 112, 116] : Str), [1, 2, 3], (some 135)⟩ : jJb)]
def jUa (N : Nat) (x0 : Int) : Option (Bool) :=
  some ((jJy .geq x0 0) && (jJy .leq x0 1000000))
def jGw (N : Nat) (x0 : (Option (jJq × Value × Value × Value))) (x1 : GEvent) : Option ((List Str) × Int) :=
  (jU9 N).bind fun v1 => bif (Option.isNone x0) then (some ([], 1)) else ((bif (!((jJy .lss x1.Op 0) || (jJy .geq x1.Op (List.length v1 : Int)))) then (jUa N x1.At) else some false).bind fun v2 => bif (((jJy .lss x1.Op 0) || (jJy .geq x1.Op (List.length v1 : Int))) || (!v2)) then (some ([], 2)) else (none))
def jDz (N : Nat) (x0 : (List Str)) (x1 : (List Str)) (s1 : Int) : Option (Int ⊕ (Unit ⊕ Bool)) :=
  bif (jJy .lss s1 (List.length x0 : Int)) then ((idx x0 s1).bind fun v2 => (idx x1 s1).bind fun v3 => bif (jUx .neq v2 v3) then (some (.inr (Sum.inr false))) else (some (.inl (IntKind.i64.wrap (s1 + 1))))) else (some (.inr (Sum.inl ())))
def jD0 (N : Nat) (x0 : (List Str)) (x1 : (List Str)) : Option (Bool) :=
  bif (jJy .neq (List.length x0 : Int) (List.length x1 : Int)) then (some false) else ((jXh (jDz N x0 x1) N 0).bind fun o6 => Sum.elim (fun l8 => some true) (fun r9 => some r9) o6)
def jGv (N : Nat) (g0 : jJq) (g0_2 : (List (Str × jJj))) (g0_3 : (List (Str × jJz))) (g0_4 : (List (Str × Str))) (x1 : GEvent) : Option jJk :=
  some (⟨[], 0⟩ : jJk)
def jZh (N : Nat) (x0 : Int) (x1 : (List Str)) : Option (jJk) :=
  some (⟨x1, x0⟩ : jJk)
def jWg (N : Nat) (g0 : jJq) (g0_2 : (List (Str × jJj))) (g0_3 : (List (Str × jJz))) (g0_4 : (List (Str × Str))) (x1 : GEvent) : Option ((List (Str × jJj)) × jJk) :=
  (jYj N x1.Person).bind fun v1 => bif (!v1) then ((jZh N 4 ([] : (List Str))).bind fun v2 => some (g0_2, v2)) else (some ((jHd g0_2 x1.Name ({ ({ (jZj (⟨0, [], 0⟩ : jJj) g0_2 x1.Name) with state := 1 } : jJj) with by_ := x1.Person } : jJj)), (⟨[], 0⟩ : jJk)))
def jY2 (N : Nat) (g0 : jJq) (g0_2 : (List (Str × jJj))) (g0_3 : (List (Str × jJz))) (g0_4 : (List (Str × Str))) (x1 : jJu) : Option jJu :=
  some x1
def jYs (N : Nat) (x0 : jJt) (c0 : Int) (c1 : jJu) (c2 : jJu) : Option (Bool) :=
  some ((jJy .leq c0 x0.Reach) && (((jJy .eql x0.A c1.Kind) && (jJy .eql x0.B c2.Kind)) || ((jJy .eql x0.A c2.Kind) && (jJy .eql x0.B c1.Kind))))
def jQ4 (N : Nat) (x0 : (List jJt)) (x1 : (jJt → Option Bool)) (s1 : Int) : Option (Int ⊕ (Unit ⊕ Int)) :=
  bif (jJy .lss s1 (List.length x0 : Int)) then ((idx x0 s1).bind fun v2 => (x1 v2).bind fun v3 => bif v3 then (some (.inr (Sum.inr s1))) else (some (.inl (IntKind.i64.wrap (s1 + 1))))) else (some (.inr (Sum.inl ())))
def jXu (N : Nat) (x0 : (List jJt)) (x1 : (jJt → Option Bool)) : Option (Int) :=
  (jXh (jQ4 N x0 x1) N 0).bind fun o6 => Sum.elim (fun l8 => some (-1)) (fun r9 => some r9) o6
def jX2 (N : Nat) (x0 : (List jJt)) (x1 : (jJt → Option Bool)) : Option (Bool) :=
  (jXu N x0 x1).bind fun v1 => some (jJy .geq v1 0)
def jUh (N : Nat) (x0 : GPermitPlan) (x1 : jJu) (x2 : jJu) : Option (Bool) :=
  bif (jUx .eql x1.Name x2.Name) then (some false) else ((jYe N x0 x1.Space x2.Space).bind fun v1 => (jX2 N x0.Exclusions (fun y0 => jYs N y0 v1 x1 x2)).bind fun v2 => some v2)
def jVk (N : Nat) (g0 : jJq) (g0_2 : (List (Str × jJj))) (g0_3 : (List (Str × jJz))) (g0_4 : (List (Str × Str))) (x0 : jJu) (c1 : jJu) : Option Bool :=
  (jUh N g0.plan x0 c1).bind fun v1 => some v1
def jQ0 (N : Nat) (g0 : jJq) (g0_2 : (List (Str × jJj))) (g0_3 : (List (Str × jJz))) (g0_4 : (List (Str × Str))) (x1_1 : jJu) (s1 : ((List Str) × Int)) : Option (((List Str) × Int) ⊕ (List Str)) :=
  bif (jJy .lss s1.2 (List.length g0.plan.Permits : Int)) then ((idx g0.plan.Permits s1.2).bind fun v2 => (jQd N g0 g0_2 g0_3 g0_4 v2.Name [2]).bind fun v3 => (bif v3 then (jVk N g0 g0_2 g0_3 g0_4 v2 x1_1) else some false).bind fun v4 => bif (v3 && v4) then ((app s1.1 [v2.Name]).bind fun v5 => some (.inl (v5, (IntKind.i64.wrap (s1.2 + 1))))) else (some (.inl (s1.1, (IntKind.i64.wrap (s1.2 + 1)))))) else (some (.inr s1.1))
def jX3 (N : Nat) (g0 : jJq) (g0_2 : (List (Str × jJj))) (g0_3 : (List (Str × jJz))) (g0_4 : (List (Str × Str))) (x1_1 : jJu) : Option (List Str) :=
  (jXh (jQ0 N g0 g0_2 g0_3 g0_4 x1_1) N ([], 0)).bind fun o8 => some o8
def jV0 (N : Nat) (g0 : jJq) (g0_2 : (List (Str × jJj))) (g0_3 : (List (Str × jJz))) (x0 : Str) (c1 : jJu) : Option Bool :=
  (jYe N g0.plan x0 c1.Space).bind fun v1 => some (jJy .leq v1 1)
def jV1 (N : Nat) (x0 : (List Str)) : Option ((List Str)) := qX2 x0
def jXj (N : Nat) (g0 : jJq) (g0_2 : (List (Str × jJj))) (g0_3 : (List (Str × jJz))) (x1_1 : jJu) (s2 : (List Str)) (p3 : (Str × Str)) : Option (List Str) :=
  (jV0 N g0 g0_2 g0_3 p3.2 x1_1).bind fun v5 => bif v5 then ((app s2 [p3.1]).bind fun v6 => some v6) else (some s2)
def jXp (N : Nat) (g0 : jJq) (g0_2 : (List (Str × jJj))) (g0_3 : (List (Str × jJz))) (g0_4 : (List (Str × Str))) (x1_1 : jJu) : Option (List Str) :=
  jP1 g0_4 fun q4p => (qXb (jXj N g0 g0_2 g0_3 x1_1) q4p []).bind fun s2 => (jV1 N s2).bind fun v8 => some v8
def jQe {S : Type} (N : Nat) (Y : S → jJ9 → Option (S × Bool)) (o8 : (List jJ9)) (s10 : (Int × S)) : Option ((Int × S) ⊕ (S ⊕ S)) :=
  bif (jJy .lss s10.1 (List.length o8 : Int)) then ((idx o8 s10.1).bind fun v11 => (bif (jJy .gtr (List.length v11.Names : Int) 0) then (Y s10.2 v11) else some (s10.2, false)).bind fun v12 => bif ((jJy .gtr (List.length v11.Names : Int) 0) && (!v12.2)) then (some (.inr (Sum.inr v12.1))) else (some (.inl ((IntKind.i64.wrap (s10.1 + 1)), v12.1)))) else (some (.inr (Sum.inl s10.2)))
def jZn {S : Type} (N : Nat) (Y : S → jJ9 → Option (S × Bool)) (y0 : S) (g0 : jJq) (g0_2 : (List (Str × jJj))) (g0_3 : (List (Str × jJz))) (g0_4 : (List (Str × Str))) (c1 : jJu) : Option S :=
  (bif (jJy .lss g0.now c1.From) then (Y y0 (⟨2, []⟩ : jJ9)) else some (y0, false)).bind fun v1 => bif ((jJy .lss g0.now c1.From) && (!v1.2)) then (some v1.1) else ((jZc N g0 g0_2 g0_3 g0_4 c1).bind fun v2 => (jX3 N g0 g0_2 g0_3 g0_4 c1).bind fun v3 => (jVb N g0 g0_2 g0_3 g0_4 c1).bind fun v4 => ((bif (jJy .eql c1.Kind 3) then ((jXp N g0 g0_2 g0_3 g0_4 c1).bind fun v5 => (app [(⟨18, v2⟩ : jJ9), (⟨20, v3⟩ : jJ9), (⟨21, v4⟩ : jJ9)] [(⟨17, v5⟩ : jJ9)]).bind fun v6 => some v6) else (some [(⟨18, v2⟩ : jJ9), (⟨20, v3⟩ : jJ9), (⟨21, v4⟩ : jJ9)])) : Option (List jJ9)).bind fun o8 => (jXh (jQe N Y o8) N (0, v1.1)).bind fun o15 => Sum.elim (fun l17 => some l17) (fun r18 => some r18) o15)
def jX1 (N : Nat) (s7 : jJk) (i8 : jJ9) : Option (jJk × Option Nat) :=
  (jZh N i8.Err i8.Names).bind fun v12 => some (v12, some 0)
def jV6 (N : Nat) (g0 : jJq) (g0_2 : (List (Str × jJj))) (g0_3 : (List (Str × jJz))) (g0_4 : (List (Str × Str))) (x1 : GEvent) : Option ((List (Str × jJj)) × jJk) :=
  (jYj N x1.Person).bind fun v1 => bif (!v1) then ((jZh N 4 ([] : (List Str))).bind fun v2 => some (g0_2, v2)) else (bif (jUx .eql x1.Person ((jZj (⟨0, [], 0⟩ : jJj) g0_2 x1.Name).by_)) then ((jZh N 26 ([] : (List Str))).bind fun v3 => some (g0_2, v3)) else ((jVg N g0.plan x1.Name).bind fun v4 => (jY2 N g0 g0_2 g0_3 g0_4 v4.1).bind fun v5 => (jZn N (yl (jX1 N) 1) ((⟨[], 0⟩ : jJk), none) g0 g0_2 g0_3 g0_4 v5).bind fun o13 => jSg o13 (fun o13s => (jQg N g0 g0_2 g0_3 g0_4 x1.Name 2).bind fun v14 => some (v14, (⟨[], 0⟩ : jJk))) (fun o13s => some (g0_2, o13s))))
def jK6 (N : Nat) (g0 : jJq) (g0_2 : (List (Str × jJj))) (g0_3 : (List (Str × jJz))) (g0_4 : (List (Str × Str))) (x1 : GEvent) : Option ((List (Str × jJj)) × jJk) :=
  (jQg N g0 g0_2 g0_3 g0_4 x1.Name 3).bind fun v1 => some (v1, (⟨[], 0⟩ : jJk))
def jXa (N : Nat) (x0 : jJu) (c0 : jJu) : Option (Bool) :=
  (jQ3 N x0.Locks c0.Name).bind fun v1 => some v1
def jVd (N : Nat) (g0 : jJq) (g0_2 : (List (Str × jJj))) (g0_3 : (List (Str × jJz))) (g0_4 : (List (Str × Str))) (x1 : (jJu → Option Bool)) (s1 : ((List Str) × Int)) : Option (((List Str) × Int) ⊕ (List Str)) :=
  bif (jJy .lss s1.2 (List.length g0.plan.Permits : Int)) then ((idx g0.plan.Permits s1.2).bind fun v2 => (jQd N g0 g0_2 g0_3 g0_4 v2.Name [2]).bind fun v3 => (bif v3 then (x1 v2) else some false).bind fun v4 => bif (v3 && v4) then ((app s1.1 [v2.Name]).bind fun v5 => some (.inl (v5, (IntKind.i64.wrap (s1.2 + 1))))) else (some (.inl (s1.1, (IntKind.i64.wrap (s1.2 + 1)))))) else (some (.inr s1.1))
def jXm (N : Nat) (g0 : jJq) (g0_2 : (List (Str × jJj))) (g0_3 : (List (Str × jJz))) (g0_4 : (List (Str × Str))) (x1 : (jJu → Option Bool)) : Option (List Str) :=
  (jXh (jVd N g0 g0_2 g0_3 g0_4 x1) N ([], 0)).bind fun o8 => some o8
def jX0 (N : Nat) (x0 : jJu) (c0 : jJu) : Option (Bool) :=
  some (((jJy .eql x0.Kind 1) && (jUx .eql x0.Space c0.Space)) && (jUx .neq x0.Name c0.Name))
def jXe (N : Nat) (x0 : Str) (c0 : jJu) : Option (Bool) :=
  some (jUx .eql x0 c0.Space)
def jVr (N : Nat) (x1 : (Str → Option Bool)) (s2 : (List Str)) (p3 : (Str × Str)) : Option (List Str) :=
  (x1 p3.2).bind fun v5 => bif v5 then ((app s2 [p3.1]).bind fun v6 => some v6) else (some s2)
def jZ2 (N : Nat) (g0 : jJq) (g0_2 : (List (Str × jJj))) (g0_3 : (List (Str × jJz))) (g0_4 : (List (Str × Str))) (x1 : (Str → Option Bool)) : Option (List Str) :=
  jP1 g0_4 fun q4p => (qXb (jVr N x1) q4p []).bind fun s2 => (jV1 N s2).bind fun v8 => some v8
def jVt (N : Nat) (g0 : jJq) (g0_2 : (List (Str × jJj))) (g0_3 : (List (Str × jJz))) (g0_4 : (List (Str × Str))) (x1 : GEvent) : Option ((List (Str × jJj)) × jJk) :=
  (jVg N g0.plan x1.Name).bind fun v1 => (jXl N g0.plan v1.1.Space).bind fun v2 => ((bif (jJy .eql v1.1.Kind 5) then ((jXm N g0 g0_2 g0_3 g0_4 (fun y0 => jXa N y0 v1.1)).bind fun v3 => bif (jJy .gtr (List.length v3 : Int) 0) then ((jZh N 20 v3).bind fun v4 => some (Sum.inr v4)) else (some (Sum.inl (⟨[], 0⟩ : jJk)))) else ((bif (jJy .eql v1.1.Kind 1) then (jQd N g0 g0_2 g0_3 g0_4 v1.1.Name [2]) else some false).bind fun v6 => bif (((jJy .eql v1.1.Kind 1) && v6) && v2.1.Enclosed) then ((jXm N g0 g0_2 g0_3 g0_4 (fun y0 => jX0 N y0 v1.1)).bind fun v7 => (jZ2 N g0 g0_2 g0_3 g0_4 (fun y0 => jXe N y0 v1.1)).bind fun v8 => bif ((jJy .eql (List.length v7 : Int) 0) && (jJy .gtr (List.length v8 : Int) 0)) then ((jZh N 21 v8).bind fun v9 => some (Sum.inr v9)) else (some (Sum.inl (⟨[], 0⟩ : jJk)))) else (some (Sum.inl (⟨[], 0⟩ : jJk))))) : Option (jJk ⊕ jJk)).bind fun o13 => Sum.elim (fun l15 => (jQg N g0 g0_2 g0_3 g0_4 x1.Name 4).bind fun v17 => some (v17, (⟨[], 0⟩ : jJk))) (fun r16 => some (g0_2, r16)) o13
def jUy (N : Nat) (g0 : jJq) (g0_2 : (List (Str × jJj))) (g0_3 : (List (Str × jJz))) (g0_4 : (List (Str × Str))) (x1 : GEvent) : Option ((List (Str × jJj)) × jJk) :=
  (jQg N g0 g0_2 g0_3 g0_4 x1.Name 5).bind fun v1 => some (v1, (⟨[], 0⟩ : jJk))
def jY7 (N : Nat) (g0 : jJq) (g0_2 : (List (Str × jJj))) (g0_3 : (List (Str × jJz))) (g0_4 : (List (Str × Str))) (x1 : GEvent) : Option ((List (Str × jJz)) × jJk) :=
  (jXl N g0.plan x1.Space).bind fun v1 => bif (!v1.2) then ((jZh N 6 ([] : (List Str))).bind fun v2 => some (g0_3, v2)) else (bif ((((jJy .lss x1.Oxygen 0) || (jJy .gtr x1.Oxygen 1000)) || (jJy .lss x1.Gas 0)) || (jJy .gtr x1.Gas 1000)) then ((jZh N 2 ([] : (List Str))).bind fun v3 => some (g0_3, v3)) else (some ((jHd g0_3 x1.Space (⟨g0.now, x1.Oxygen, x1.Gas⟩ : jJz)), (⟨[], 0⟩ : jJk))))
def jZr (N : Nat) (x0 : jJu) (c0 : Str) : Option (Bool) :=
  some ((jJy .eql x0.Kind 1) && (jUx .eql x0.Space c0))
def jWt (N : Nat) (g0 : jJq) (g0_2 : (List (Str × jJj))) (g0_3 : (List (Str × jJz))) (g0_4 : (List (Str × Str))) (x1 : Str) : Option Bool :=
  (jXm N g0 g0_2 g0_3 g0_4 (fun y0 => jZr N y0 x1)).bind fun v1 => some (jJy .gtr (List.length v1 : Int) 0)
def jWf (N : Nat) (g0 : jJq) (g0_2 : (List (Str × jJj))) (g0_3 : (List (Str × jJz))) (g0_4 : (List (Str × Str))) (x0 : jJu) (c1 : jJ5) : Option Bool :=
  (bif (jJy .eql x0.Kind 3) then (jYe N g0.plan x0.Space c1.Name) else some 0).bind fun v1 => some ((jJy .eql x0.Kind 3) && (jJy .leq v1 1))
def jXk (N : Nat) (g0 : jJq) (g0_2 : (List (Str × jJj))) (g0_3 : (List (Str × jJz))) (g0_4 : (List (Str × Str))) (x1_1 : jJ5) (s1 : ((List Str) × Int)) : Option (((List Str) × Int) ⊕ (List Str)) :=
  bif (jJy .lss s1.2 (List.length g0.plan.Permits : Int)) then ((idx g0.plan.Permits s1.2).bind fun v2 => (jQd N g0 g0_2 g0_3 g0_4 v2.Name [2]).bind fun v3 => (bif v3 then (jWf N g0 g0_2 g0_3 g0_4 v2 x1_1) else some false).bind fun v4 => bif (v3 && v4) then ((app s1.1 [v2.Name]).bind fun v5 => some (.inl (v5, (IntKind.i64.wrap (s1.2 + 1))))) else (some (.inl (s1.1, (IntKind.i64.wrap (s1.2 + 1)))))) else (some (.inr s1.1))
def jZy (N : Nat) (g0 : jJq) (g0_2 : (List (Str × jJj))) (g0_3 : (List (Str × jJz))) (g0_4 : (List (Str × Str))) (x1_1 : jJ5) : Option (List Str) :=
  (jXh (jXk N g0 g0_2 g0_3 g0_4 x1_1) N ([], 0)).bind fun o8 => some o8
def jW9 (N : Nat) (g0 : jJq) (g0_2 : (List (Str × jJj))) (g0_3 : (List (Str × jJz))) (g0_4 : (List (Str × Str))) (x1 : GEvent) : Option ((List (Str × Str)) × jJk) :=
  (jYj N x1.Person).bind fun v1 => bif (!v1) then ((jZh N 4 ([] : (List Str))).bind fun v2 => some (g0_4, v2)) else ((jXl N g0.plan x1.Space).bind fun v3 => bif (!v3.2) then ((jZh N 6 ([] : (List Str))).bind fun v4 => some (g0_4, v4)) else (bif (jKs g0_4 x1.Person) then ((jZh N 18 ([] : (List Str))).bind fun v5 => some (g0_4, v5)) else ((bif v3.1.Enclosed then (jWt N g0 g0_2 g0_3 g0_4 v3.1.Name) else some false).bind fun v6 => bif (v3.1.Enclosed && (!v6)) then ((jZh N 21 ([] : (List Str))).bind fun v7 => some (g0_4, v7)) else ((jZy N g0 g0_2 g0_3 g0_4 v3.1).bind fun v8 => bif (jJy .gtr (List.length v8 : Int) 0) then ((jZh N 17 v8).bind fun v9 => some (g0_4, v9)) else (some ((jHd g0_4 x1.Person v3.1.Name), (⟨[], 0⟩ : jJk)))))))
def jW4 (N : Nat) (g0 : jJq) (g0_2 : (List (Str × jJj))) (g0_3 : (List (Str × jJz))) (g0_4 : (List (Str × Str))) (x1 : GEvent) : Option ((List (Str × Str)) × jJk) :=
  (jYj N x1.Person).bind fun v1 => bif (!v1) then ((jZh N 4 ([] : (List Str))).bind fun v2 => some (g0_4, v2)) else (bif (!(jKs g0_4 x1.Person)) then ((jZh N 6 ([] : (List Str))).bind fun v3 => some (g0_4, v3)) else (some ((jTc g0_4 x1.Person), (⟨[], 0⟩ : jJk))))
def jWh (N : Nat) (g0 : jJq) (g0_2 : (List (Str × jJj))) (g0_3 : (List (Str × jJz))) (g0_4 : (List (Str × Str))) (x0 : jJu) (c1 : GEvent) : Option Bool :=
  (bif (jJy .neq x0.Kind 5) then (jYe N g0.plan x0.Space c1.Space) else some 0).bind fun v1 => some ((jJy .neq x0.Kind 5) && (jJy .leq v1 1))
def jXv (N : Nat) (g0 : jJq) (g0_2 : (List (Str × jJj))) (g0_3 : (List (Str × jJz))) (g0_4 : (List (Str × Str))) (x1_1 : GEvent) (s1 : ((List Str) × Int)) : Option (((List Str) × Int) ⊕ (List Str)) :=
  bif (jJy .lss s1.2 (List.length g0.plan.Permits : Int)) then ((idx g0.plan.Permits s1.2).bind fun v2 => (jQd N g0 g0_2 g0_3 g0_4 v2.Name [2]).bind fun v3 => (bif v3 then (jWh N g0 g0_2 g0_3 g0_4 v2 x1_1) else some false).bind fun v4 => bif (v3 && v4) then ((app s1.1 [v2.Name]).bind fun v5 => some (.inl (v5, (IntKind.i64.wrap (s1.2 + 1))))) else (some (.inl (s1.1, (IntKind.i64.wrap (s1.2 + 1)))))) else (some (.inr s1.1))
def jZw (N : Nat) (g0 : jJq) (g0_2 : (List (Str × jJj))) (g0_3 : (List (Str × jJz))) (g0_4 : (List (Str × Str))) (x1_1 : GEvent) : Option (List Str) :=
  (jXh (jXv N g0 g0_2 g0_3 g0_4 x1_1) N ([], 0)).bind fun o8 => some o8
def jZa (N : Nat) (g0 : jJq) (g0_3 : (List (Str × jJz))) (g0_4 : (List (Str × Str))) (v3 : (List Str)) (s4 : (Int × (List (Str × jJj)))) : Option ((Int × (List (Str × jJj))) ⊕ (List (Str × jJj))) :=
  bif (jJy .lss s4.1 (List.length v3 : Int)) then ((idx v3 s4.1).bind fun v5 => (jQg N g0 s4.2 g0_3 g0_4 v5 3).bind fun v6 => some (.inl ((IntKind.i64.wrap (s4.1 + 1)), v6))) else (some (.inr s4.2))
def jW7 (N : Nat) (g0 : jJq) (g0_2 : (List (Str × jJj))) (g0_3 : (List (Str × jJz))) (g0_4 : (List (Str × Str))) (x1 : GEvent) : Option ((List (Str × jJj)) × jJk) :=
  (jXl N g0.plan x1.Space).bind fun v1 => bif (!v1.2) then ((jZh N 6 ([] : (List Str))).bind fun v2 => some (g0_2, v2)) else ((jZw N g0 g0_2 g0_3 g0_4 x1).bind fun v3 => (jXh (jZa N g0 g0_3 g0_4 v3) N (0, g0_2)).bind fun o8 => some (o8, (⟨[], 0⟩ : jJk)))
def jWp (N : Nat) (g0 : jJq) (g0_2 : (List (Str × jJj))) (g0_3 : (List (Str × jJz))) (g0_4 : (List (Str × Str))) (x1 : GEvent) : Option ((List (Str × jJj)) × jJk) :=
  (jYj N x1.Person).bind fun v1 => bif (!v1) then ((jZh N 4 ([] : (List Str))).bind fun v2 => some (g0_2, v2)) else (bif ((jJy .leq x1.To ((jZj (⟨0, [], 0⟩ : jJj) g0_2 x1.Name).to_)) || (jJy .gtr x1.To 1000000)) then ((jZh N 2 ([] : (List Str))).bind fun v3 => some (g0_2, v3)) else (some ((jHd g0_2 x1.Name ({ (jZj (⟨0, [], 0⟩ : jJj) g0_2 x1.Name) with to_ := x1.To } : jJj)), (⟨[], 0⟩ : jJk))))
def jMx (N : Nat) (g0 : jJq) (g0_2 : (List (Str × jJj))) (g0_3 : (List (Str × jJz))) (g0_4 : (List (Str × Str))) (n : (Option Nat)) (x1 : GEvent) : Option ((List (Str × jJj)) × (List (Str × jJz)) × (List (Str × Str)) × jJk) :=
  bif decide (n = some 125) then ((jGv N g0 g0_2 g0_3 g0_4 x1).bind fun y => some (g0_2, g0_3, g0_4, y)) else (bif decide (n = some 126) then ((jWg N g0 g0_2 g0_3 g0_4 x1).bind fun y => some (y.1, g0_3, g0_4, y.2)) else (bif decide (n = some 127) then ((jV6 N g0 g0_2 g0_3 g0_4 x1).bind fun y => some (y.1, g0_3, g0_4, y.2)) else (bif decide (n = some 128) then ((jK6 N g0 g0_2 g0_3 g0_4 x1).bind fun y => some (y.1, g0_3, g0_4, y.2)) else (bif decide (n = some 129) then ((jVt N g0 g0_2 g0_3 g0_4 x1).bind fun y => some (y.1, g0_3, g0_4, y.2)) else (bif decide (n = some 130) then ((jUy N g0 g0_2 g0_3 g0_4 x1).bind fun y => some (y.1, g0_3, g0_4, y.2)) else (bif decide (n = some 131) then ((jY7 N g0 g0_2 g0_3 g0_4 x1).bind fun y => some (g0_2, y.1, g0_4, y.2)) else (bif decide (n = some 132) then ((jW9 N g0 g0_2 g0_3 g0_4 x1).bind fun y => some (g0_2, g0_3, y.1, y.2)) else (bif decide (n = some 133) then ((jW4 N g0 g0_2 g0_3 g0_4 x1).bind fun y => some (g0_2, g0_3, y.1, y.2)) else (bif decide (n = some 134) then ((jW7 N g0 g0_2 g0_3 g0_4 x1).bind fun y => some (y.1, g0_3, g0_4, y.2)) else (bif decide (n = some 135) then ((jWp N g0 g0_2 g0_3 g0_4 x1).bind fun y => some (y.1, g0_3, g0_4, y.2)) else (none)))))))))))
def jVl (N : Nat) (g0 : jJq) (g0_2 : (List (Str × jJj))) (g0_3 : (List (Str × jJz))) (g0_4 : (List (Str × Str))) (x1 : GEvent) : Option (jJq × (List (Str × jJj)) × (List (Str × jJz)) × (List (Str × Str)) × (List Str) × Int) :=
  (jU9 N).bind fun v1 => (bif (!((jJy .lss x1.Op 0) || (jJy .geq x1.Op (List.length v1 : Int)))) then (jUa N x1.At) else some false).bind fun v2 => bif (((jJy .lss x1.Op 0) || (jJy .geq x1.Op (List.length v1 : Int))) || (!v2)) then (some (g0, g0_2, g0_3, g0_4, [], 2)) else (bif (jJy .lss x1.At g0.now) then (some (g0, g0_2, g0_3, g0_4, [], 10)) else ((jZp N ({ g0 with now := x1.At } : jJq) g0_2 g0_3 g0_4).bind fun v3 => (idx v1 x1.Op).bind fun v4 => ((bif (!(List.isEmpty v4.states)) then ((jVg N (({ g0 with now := x1.At } : jJq).plan) x1.Name).bind fun v5 => bif (!v5.2) then (some (Sum.inr ([], 6))) else ((jQd N ({ g0 with now := x1.At } : jJq) v3 g0_3 g0_4 x1.Name v4.states).bind fun v6 => bif (!v6) then (some (Sum.inr ([], 18))) else (some (Sum.inl ())))) else (some (Sum.inl ()))) : Option (Unit ⊕ ((List Str) × Int))).bind fun o10 => Sum.elim (fun l12 => (jMx N ({ g0 with now := x1.At } : jJq) v3 g0_3 g0_4 v4.do_ x1).bind fun v14 => bif (jJy .neq v14.2.2.2.e 0) then (some (({ g0 with now := x1.At } : jJq), v14.1, v14.2.1, v14.2.2.1, v14.2.2.2.names, v14.2.2.2.e)) else ((jZp N ({ g0 with now := x1.At } : jJq) v14.1 v14.2.1 v14.2.2.1).bind fun v15 => (app (({ g0 with now := x1.At } : jJq).done) [x1]).bind fun v16 => some (({ ({ g0 with now := x1.At } : jJq) with done := v16 } : jJq), v15, v14.2.1, v14.2.2.1, [], 0))) (fun r13 => some (({ g0 with now := x1.At } : jJq), v3, g0_3, g0_4, r13.1, r13.2)) o10))
def jU1 (N : Nat) : Option (Bool) :=
  (jDu N).bind fun v1 => (jFn N v1 ([100, 101, 99, 107] : Str) ([104, 111, 108, 100] : Str)).bind fun v2 => (jK3 N v1).bind fun v3 => jCr v3 (fun v3e => (jGw N (none : (Option (jJq × Value × Value × Value))) (⟨0, 1, ([119, 101, 108, 100] : Str), [], ([97, 110, 110] : Str), 0, 0, 0⟩ : GEvent)).bind fun v4 => (jGw N (none : (Option (jJq × Value × Value × Value))) (⟨0, 2, ([119, 101, 108, 100] : Str), [], ([98, 111, 98] : Str), 0, 0, 0⟩ : GEvent)).bind fun v5 => (bif (((((jJy .eql v2.2 0) && (jJy .eql v2.1 2)) && (jJy .eql v3e 0)) && (jJy .eql v4.2 0)) && (jJy .eql v5.2 21)) then (jD0 N v5.1 [([116, 97, 110, 107] : Str)]) else some false).bind fun v6 => some ((((((jJy .eql v2.2 0) && (jJy .eql v2.1 2)) && (jJy .eql v3e 0)) && (jJy .eql v4.2 0)) && (jJy .eql v5.2 21)) && v6)) (fun v3o v3e => (jVl N v3o.1 v3o.2.1 v3o.2.2.1 v3o.2.2.2 (⟨0, 1, ([119, 101, 108, 100] : Str), [], ([97, 110, 110] : Str), 0, 0, 0⟩ : GEvent)).bind fun v12 => (jVl N v12.1 v12.2.1 v12.2.2.1 v12.2.2.2.1 (⟨0, 2, ([119, 101, 108, 100] : Str), [], ([98, 111, 98] : Str), 0, 0, 0⟩ : GEvent)).bind fun v13 => (bif (((((jJy .eql v2.2 0) && (jJy .eql v2.1 2)) && (jJy .eql v3e 0)) && (jJy .eql v12.2.2.2.2.2 0)) && (jJy .eql v13.2.2.2.2.2 21)) then (jD0 N v13.2.2.2.2.1 [([116, 97, 110, 107] : Str)]) else some false).bind fun v14 => some ((((((jJy .eql v2.2 0) && (jJy .eql v2.1 2)) && (jJy .eql v3e 0)) && (jJy .eql v12.2.2.2.2.2 0)) && (jJy .eql v13.2.2.2.2.2 21)) && v14))
def jVn (N : Nat) (x0 : jJu) : Option (Bool) :=
  some true
def jYm (N : Nat) (g0 : jJq) (g0_2 : (List (Str × jJj))) (g0_3 : (List (Str × jJz))) (g0_4 : (List (Str × Str))) : Option (List Str) :=
  (jXm N g0 g0_2 g0_3 g0_4 (fun y0 => jVn N y0)).bind fun v1 => some v1
def jV2 (N : Nat) (g0 : jJq) (g0_2 : (List (Str × jJj))) (g0_3 : (List (Str × jJz))) (g0_4 : (List (Str × Str))) : Option Int :=
  some g0.now
def jVy (N : Nat) (x0 : (List GEvent)) : Option ((List GEvent)) :=
  (app ([] : (List GEvent)) x0).bind fun v1 => some v1
def jWa (N : Nat) (g0 : jJq) (g0_2 : (List (Str × jJj))) (g0_3 : (List (Str × jJz))) (g0_4 : (List (Str × Str))) : Option (List GEvent) :=
  (jVy N g0.done).bind fun v1 => some v1
def jKl (N : Nat) (x0 : (List GEvent)) (x1 : Str) (x2 : Int) (s1 : Int) : Option (Int ⊕ (Unit ⊕ Bool)) :=
  bif (jJy .lss s1 (List.length x0 : Int)) then ((idx x0 s1).bind fun v2 => (bif (jJy .eql v2.Op 11) then (idx x0 s1) else some (⟨0, 0, [], [], [], 0, 0, 0⟩ : GEvent)).bind fun v3 => (bif ((jJy .eql v2.Op 11) && (jUx .eql v3.Name x1)) then (idx x0 s1) else some (⟨0, 0, [], [], [], 0, 0, 0⟩ : GEvent)).bind fun v4 => bif (((jJy .eql v2.Op 11) && (jUx .eql v3.Name x1)) && (jJy .gtr v4.To x2)) then (some (.inr (Sum.inr true))) else (some (.inl (IntKind.i64.wrap (s1 + 1))))) else (some (.inr (Sum.inl ())))
def jU3 (N : Nat) (x0 : (List GEvent)) (x1 : Str) (x2 : Int) : Option (Bool) :=
  (jXh (jKl N x0 x1 x2) N 0).bind fun o7 => Sum.elim (fun l9 => some false) (fun r10 => some r10) o7
def jU6 (N : Nat) (x0 : GPermitPlan) (x1 : Str) : Option ((List Str) × Int) :=
  (jW3 N x0).bind fun v1 => bif (jJy .neq v1 0) then (some ([], v1)) else ((jVg N x0 x1).bind fun v2 => bif (!v2.2) then (some ([], 6)) else ((jKd N x0 v2.1).bind fun v3 => some (v3, 0)))
def jYl (N : Nat) (g0 : jJq) (g0_2 : (List (Str × jJj))) (g0_3 : (List (Str × jJz))) (g0_4 : (List (Str × Str))) (x1 : Str) : Option (Bool × Bool × Int) :=
  (jXl N g0.plan x1).bind fun v1 => bif (!v1.2) then (some (false, false, 6)) else ((jWv N g0 g0_2 g0_3 g0_4 x1).bind fun v2 => some (v2.1, v2.2, 0))
def jYw (N : Nat) (v12 : (jJq × (List (Str × jJj)) × (List (Str × jJz)) × (List (Str × Str)) × (List Str) × Int)) (v17 : jJu) (v23 : ((List Str) × Int)) (s24 : Int) : Option (Int ⊕ (Unit ⊕ Bool)) :=
  bif (jJy .lss s24 (List.length v23.1 : Int)) then ((idx v23.1 s24).bind fun v25 => (jYl N v12.1 v12.2.1 v12.2.2.1 v12.2.2.2.1 v25).bind fun v26 => bif (((jJy .neq v26.2.2 0) || (!v26.1)) || ((jJy .eql v17.Kind 0) && (!v26.2.1))) then (some (.inr (Sum.inr false))) else (some (.inl (IntKind.i64.wrap (s24 + 1))))) else (some (.inr (Sum.inl ())))
def jYz (N : Nat) (x0 : GPermitPlan) (v12 : (jJq × (List (Str × jJj)) × (List (Str × jJz)) × (List (Str × Str)) × (List Str) × Int)) (v13 : (List Str)) (s14 : Int) : Option (Int ⊕ (Unit ⊕ Bool)) :=
  bif (jJy .lss s14 (List.length v13 : Int)) then ((idx v13 s14).bind fun v15 => (jK5 N x0 v15).bind fun v16 => bif (jJy .lss v16 0) then (some (.inr (Sum.inr false))) else ((idx x0.Permits v16).bind fun v17 => (jV2 N v12.1 v12.2.1 v12.2.2.1 v12.2.2.2.1).bind fun v18 => (bif (!(jJy .lss v18 v17.From)) then (jV2 N v12.1 v12.2.1 v12.2.2.1 v12.2.2.2.1) else some 0).bind fun v19 => (bif ((!(jJy .lss v18 v17.From)) && (jJy .geq v19 v17.To)) then (jWa N v12.1 v12.2.1 v12.2.2.1 v12.2.2.2.1) else some []).bind fun v20 => (bif ((!(jJy .lss v18 v17.From)) && (jJy .geq v19 v17.To)) then (jV2 N v12.1 v12.2.1 v12.2.2.1 v12.2.2.2.1) else some 0).bind fun v21 => (bif ((!(jJy .lss v18 v17.From)) && (jJy .geq v19 v17.To)) then (jU3 N v20 v17.Name v21) else some false).bind fun v22 => bif ((jJy .lss v18 v17.From) || ((jJy .geq v19 v17.To) && (!v22))) then (some (.inr (Sum.inr false))) else ((jU6 N x0 v17.Name).bind fun v23 => bif (jJy .neq v23.2 0) then (some (.inr (Sum.inr false))) else ((jXh (jYw N v12 v17 v23) N 0).bind fun o29 => Sum.elim (fun l31 => some (.inl (IntKind.i64.wrap (s14 + 1)))) (fun r32 => some (.inr (Sum.inr r32))) o29)))) else (some (.inr (Sum.inl ())))
def jYx (N : Nat) (x0 : GPermitPlan) (x1 : (List GEvent)) (s10 : (Int × jJq × (List (Str × jJj)) × (List (Str × jJz)) × (List (Str × Str)))) : Option ((Int × jJq × (List (Str × jJj)) × (List (Str × jJz)) × (List (Str × Str))) ⊕ ((jJq × (List (Str × jJj)) × (List (Str × jJz)) × (List (Str × Str))) ⊕ (Bool × jJq × (List (Str × jJj)) × (List (Str × jJz)) × (List (Str × Str))))) :=
  bif (jJy .lss s10.1 (List.length x1 : Int)) then ((idx x1 s10.1).bind fun v11 => (jVl N s10.2.1 s10.2.2.1 s10.2.2.2.1 s10.2.2.2.2 v11).bind fun v12 => (jYm N v12.1 v12.2.1 v12.2.2.1 v12.2.2.2.1).bind fun v13 => (jXh (jYz N x0 v12 v13) N 0).bind fun o38 => Sum.elim (fun l40 => some (.inl ((IntKind.i64.wrap (s10.1 + 1)), v12.1, v12.2.1, v12.2.2.1, v12.2.2.2.1))) (fun r41 => some (.inr (Sum.inr (r41, v12.1, v12.2.1, v12.2.2.1, v12.2.2.2.1)))) o38) else (some (.inr (Sum.inl (s10.2.1, s10.2.2.1, s10.2.2.2.1, s10.2.2.2.2))))
def jGa (N : Nat) (x0 : GPermitPlan) (x1 : (List GEvent)) : Option (Bool) :=
  (jHw N x0).bind fun v1 => bif ((!v1) || (jJy .gtr (List.length x1 : Int) 30)) then ((jU1 N).bind fun v2 => some v2) else ((jK3 N x0).bind fun v3 => jCr v3 (fun v3e => some false) (fun v3o v3e => bif (false || (jJy .neq v3e 0)) then (some false) else ((jXh (jYx N x0 x1) N (0, v3o.1, v3o.2.1, v3o.2.2.1, v3o.2.2.2)).bind fun o44 => Sum.elim (fun l46 => (jU1 N).bind fun v48 => some v48) (fun r47 => some r47.1) o44)))
end
end Go.KB
