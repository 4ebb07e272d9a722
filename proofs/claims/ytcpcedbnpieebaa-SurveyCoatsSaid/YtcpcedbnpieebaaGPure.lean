/- The functions as plain Lean functions. Printed by a program. No condition. -/
import Derived.Test.YtcpcedbnpieebaaGTypes
namespace Go.KB
set_option linter.unusedVariables false
def f_exact_opposite (N : Nat) (x0 : GInt) : Option (GInt) :=
  some (⟨(!x0.Neg), x0.Limbs⟩ : GInt)
def f_exact_trim_L1 (N : Nat) (s1 : (List Int)) : Option ((List Int) ⊕ (List Int)) :=
  (bif (cmpI .gtr (List.length s1 : Int) 0) then (idx s1 (IntKind.i64.wrap ((List.length s1 : Int) - 1))) else some 0).bind fun v2 => bif ((cmpI .gtr (List.length s1 : Int) 0) && (cmpI .eql v2 0)) then ((slc s1 0 (IntKind.i64.wrap ((List.length s1 : Int) - 1))).bind fun v3 => some (.inl v3)) else (some (.inr s1))
def f_exact_trim (N : Nat) (x0 : (List Int)) : Option ((List Int)) :=
  (loopN (f_exact_trim_L1 N) N x0).bind fun o5 => some o5
def f_exact_sign (N : Nat) (x0 : GInt) : Option (Int) :=
  (f_exact_trim N x0.Limbs).bind fun v1 => bif (cmpI .eql (List.length v1 : Int) 0) then (some 0) else (bif x0.Neg then (some (-1)) else (some 1))
def f_exact_below (N : Nat) (x0 : GRat) : Option (GInt) :=
  (f_exact_sign N x0.Den).bind fun v1 => bif (cmpI .eql v1 0) then (some (⟨false, [1]⟩ : GInt)) else (some x0.Den)
def f_exact_word_L1 (N : Nat) (x0 : (List Int)) (s1 : (Int × Int)) : Option ((Int × Int) ⊕ Int) :=
  bif (cmpI .geq s1.2 0) then ((shlI .u64 s1.1 16).bind fun v2 => (idx x0 s1.2).bind fun v3 => some (.inl ((bitI .or .u64 v2 (IntKind.u64.wrap v3)), (IntKind.i64.wrap (s1.2 - 1))))) else (some (.inr s1.1))
def f_exact_word (N : Nat) (x0 : (List Int)) : Option (Int × Bool) :=
  bif (cmpI .gtr (List.length x0 : Int) 4) then (some (0, false)) else ((loopN (f_exact_word_L1 N x0) N (0, (IntKind.i64.wrap ((List.length x0 : Int) - 1)))).bind fun o5 => some (o5, true))
def f_exact_natural_L1 (N : Nat) (s1 : (Int × (List Int))) : Option ((Int × (List Int)) ⊕ (List Int)) :=
  bif (cmpI .gtr s1.1 0) then ((app s1.2 [(IntKind.u16.wrap s1.1)]).bind fun v2 => (shrI .u64 s1.1 16).bind fun v3 => some (.inl (v3, v2))) else (some (.inr s1.2))
def f_exact_natural (N : Nat) (x0 : Int) : Option ((List Int)) :=
  (loopN (f_exact_natural_L1 N) N (x0, [])).bind fun o5 => some o5
def f_exact_compare_L1 (N : Nat) (x0 : (List Int)) (x1 : (List Int)) (s1 : Int) : Option (Int ⊕ (Unit ⊕ Int)) :=
  bif (cmpI .geq s1 0) then ((idx x0 s1).bind fun v2 => (idx x1 s1).bind fun v3 => bif (cmpI .neq v2 v3) then ((idx x0 s1).bind fun v4 => (idx x1 s1).bind fun v5 => some (.inr (Sum.inr (IntKind.i64.wrap ((IntKind.i64.wrap v4) - (IntKind.i64.wrap v5)))))) else (some (.inl (IntKind.i64.wrap (s1 - 1))))) else (some (.inr (Sum.inl ())))
def f_exact_compare (N : Nat) (x0 : (List Int)) (x1 : (List Int)) : Option (Int) :=
  bif (cmpI .neq (List.length x0 : Int) (List.length x1 : Int)) then (some (IntKind.i64.wrap ((List.length x0 : Int) - (List.length x1 : Int)))) else ((loopN (f_exact_compare_L1 N x0 x1) N (IntKind.i64.wrap ((List.length x0 : Int) - 1))).bind fun o8 => Sum.elim (fun l10 => some 0) (fun r11 => some r11) o8)
def f_slices_Cloneluint16_uint16 (N : Nat) (x0 : (List Int)) : Option ((List Int)) :=
  (app ([] : (List Int)) x0).bind fun v1 => some v1
def f_exact_short_L1 (N : Nat) (x0 : (List Int)) (x1 : Int) (s2 : ((List Int) × Int × Int)) : Option (((List Int) × Int × Int) ⊕ ((List Int) × Int)) :=
  bif (cmpI .geq s2.2.2 0) then ((shlI .u32 s2.2.1 16).bind fun v3 => (idx x0 s2.2.2).bind fun v4 => (quoI .u32 (bitI .or .u32 v3 (IntKind.u32.wrap v4)) (IntKind.u32.wrap x1)).bind fun v5 => (idx s2.1 s2.2.2).bind fun v6 => (remI (bitI .or .u32 v3 (IntKind.u32.wrap v4)) (IntKind.u32.wrap x1)).bind fun v7 => some (.inl ((List.set s2.1 (Int.toNat s2.2.2) (IntKind.u16.wrap v5)), v7, (IntKind.i64.wrap (s2.2.2 - 1))))) else (some (.inr (s2.1, s2.2.1)))
def f_exact_short (N : Nat) (x0 : (List Int)) (x1 : Int) : Option ((List Int) × Int) :=
  (mk 0 (List.length x0 : Int) (List.length x0 : Int)).bind fun v1 => (loopN (f_exact_short_L1 N x0 x1) N (v1, 0, (IntKind.i64.wrap ((List.length x0 : Int) - 1)))).bind fun o9 => (f_exact_trim N o9.1).bind fun v11 => some (v11, (IntKind.u16.wrap o9.2))
def f_bits_Len16 (N : Nat) (x0 : Int) : Option (Int) :=
  bif (cmpI .geq x0 256) then ((shrI .u16 x0 8).bind fun v1 => (idx ([0, 1, 2, 2, 3, 3, 3, 3, 4, 4, 4, 4, 4, 4, 4, 4, 5, 5, 5, 5, 5, 5, 5, 5, 5, 5, 5, 5, 5, 5, 5, 5, 6, 6, 6, 6, 6, 6, 6, 6, 6, 6, 6, 6, 6, 6, 6, 6, 6, 6, 6, 6, 6, 6, 6, 6, 6, 6, 6, 6, 6, 6, 6, 6, 7, 7, 7, 7, 7, 7, 7, 7, 7, 7, 7, 7, 7, 7, 7, 7, 7, 7, 7, 7, 7, 7, 7, 7, 7, 7, 7, 7, 7, 7, 7, 7, 7, 7, 7, 7, 7, 7, 7, 7, 7, 7, 7, 7, 7, 7, 7, 7, 7, 7, 7, 7, 7, 7, 7, 7, 7, 7, 7, 7, 7, 7, 7, 7, 8, 8, 8, 8, 8, 8, 8, 8, 8, 8, 8, 8, 8, 8, 8, 8, 8, 8, 8, 8, 8, 8, 8, 8, 8, 8, 8, 8, 8, 8, 8, 8, 8, 8, 8, 8, 8, 8, 8, 8, 8, 8, 8, 8, 8, 8, 8, 8, 8, 8, 8, 8, 8, 8, 8, 8, 8, 8, 8, 8, 8, 8, 8, 8, 8, 8, 8, 8, 8, 8, 8, 8, 8, 8, 8, 8, 8, 8, 8, 8, 8, 8, 8, 8, 8, 8, 8, 8, 8, 8, 8, 8, 8, 8, 8, 8, 8, 8, 8, 8, 8, 8, 8, 8, 8, 8, 8, 8, 8, 8, 8, 8, 8, 8, 8, 8, 8, 8, 8, 8, 8, 8, 8, 8, 8, 8, 8, 8] : Str) (IntKind.u8.wrap v1)).bind fun v2 => some (IntKind.i64.wrap (8 + (IntKind.i64.wrap ((UInt8.toNat v2 : Nat) : Int))))) else ((idx ([0, 1, 2, 2, 3, 3, 3, 3, 4, 4, 4, 4, 4, 4, 4, 4, 5, 5, 5, 5, 5, 5, 5, 5, 5, 5, 5, 5, 5, 5, 5, 5, 6, 6, 6, 6, 6, 6, 6, 6, 6, 6, 6, 6, 6, 6, 6, 6, 6, 6, 6, 6, 6, 6, 6, 6, 6, 6, 6, 6, 6, 6, 6, 6, 7, 7, 7, 7, 7, 7, 7, 7, 7, 7, 7, 7, 7, 7, 7, 7, 7, 7, 7, 7, 7, 7, 7, 7, 7, 7, 7, 7, 7, 7, 7, 7, 7, 7, 7, 7, 7, 7, 7, 7, 7, 7, 7, 7, 7, 7, 7, 7, 7, 7, 7, 7, 7, 7, 7, 7, 7, 7, 7, 7, 7, 7, 7, 7, 8, 8, 8, 8, 8, 8, 8, 8, 8, 8, 8, 8, 8, 8, 8, 8, 8, 8, 8, 8, 8, 8, 8, 8, 8, 8, 8, 8, 8, 8, 8, 8, 8, 8, 8, 8, 8, 8, 8, 8, 8, 8, 8, 8, 8, 8, 8, 8, 8, 8, 8, 8, 8, 8, 8, 8, 8, 8, 8, 8, 8, 8, 8, 8, 8, 8, 8, 8, 8, 8, 8, 8, 8, 8, 8, 8, 8, 8, 8, 8, 8, 8, 8, 8, 8, 8, 8, 8, 8, 8, 8, 8, 8, 8, 8, 8, 8, 8, 8, 8, 8, 8, 8, 8, 8, 8, 8, 8, 8, 8, 8, 8, 8, 8, 8, 8, 8, 8, 8, 8, 8, 8, 8, 8, 8, 8, 8, 8] : Str) (IntKind.u8.wrap x0)).bind fun v3 => some (IntKind.i64.wrap (0 + (IntKind.i64.wrap ((UInt8.toNat v3 : Nat) : Int)))))
def f_bits_LeadingZeros16 (N : Nat) (x0 : Int) : Option (Int) :=
  (f_bits_Len16 N x0).bind fun v1 => some (IntKind.i64.wrap (16 - v1))
def f_exact_shifted_L1 (N : Nat) (x0 : (List Int)) (x1 : Int) (s2 : ((List Int) × Int)) : Option (((List Int) × Int) ⊕ (List Int)) :=
  bif (cmpI .lss s2.2 (List.length x0 : Int)) then ((idx x0 s2.2).bind fun v3 => (shlI .u32 (IntKind.u32.wrap v3) x1).bind fun v4 => (idx s2.1 s2.2).bind fun v5 => (idx s2.1 s2.2).bind fun v6 => (shrI .u32 v4 16).bind fun v7 => (idx (List.set s2.1 (Int.toNat s2.2) (bitI .or .u16 v5 (IntKind.u16.wrap v4))) (IntKind.i64.wrap (s2.2 + 1))).bind fun v8 => some (.inl ((List.set (List.set s2.1 (Int.toNat s2.2) (bitI .or .u16 v5 (IntKind.u16.wrap v4))) (Int.toNat (IntKind.i64.wrap (s2.2 + 1))) (IntKind.u16.wrap v7)), (IntKind.i64.wrap (s2.2 + 1))))) else (some (.inr s2.1))
def f_exact_shifted (N : Nat) (x0 : (List Int)) (x1 : Int) : Option ((List Int)) :=
  (mk 0 (IntKind.i64.wrap ((List.length x0 : Int) + 1)) (IntKind.i64.wrap ((List.length x0 : Int) + 1))).bind fun v1 => (loopN (f_exact_shifted_L1 N x0 x1) N (v1, 0)).bind fun o10 => some o10
def f_exact_digit_L1 (N : Nat) (x1 : (List Int)) (s28 : ((List Int) × Int × Int)) : Option (((List Int) × Int × Int) ⊕ ((List Int) × Int)) :=
  bif (cmpI .lss s28.2.2 (List.length x1 : Int)) then ((idx s28.1 s28.2.2).bind fun v29 => (idx x1 s28.2.2).bind fun v30 => (idx s28.1 s28.2.2).bind fun v31 => (shrI .u32 (IntKind.u32.wrap (s28.2.1 + (IntKind.u32.wrap ((IntKind.u32.wrap v29) + (IntKind.u32.wrap v30))))) 16).bind fun v32 => some (.inl ((List.set s28.1 (Int.toNat s28.2.2) (IntKind.u16.wrap (IntKind.u32.wrap (s28.2.1 + (IntKind.u32.wrap ((IntKind.u32.wrap v29) + (IntKind.u32.wrap v30))))))), v32, (IntKind.i64.wrap (s28.2.2 + 1))))) else (some (.inr (s28.1, s28.2.1)))
def f_exact_digit_L2 (N : Nat) (x1 : (List Int)) (o14 : Int) (s16 : ((List Int) × Int × Int × Int)) : Option (((List Int) × Int × Int × Int) ⊕ ((List Int) × Int)) :=
  bif (cmpI .lss s16.2.2.2 (IntKind.i64.wrap ((List.length x1 : Int) + 1))) then (((bif (cmpI .lss s16.2.2.2 (List.length x1 : Int)) then ((idx x1 s16.2.2.2).bind fun v17 => some (IntKind.u64.wrap (s16.2.1 + (IntKind.u64.wrap (o14 * (IntKind.u64.wrap v17)))))) else (some s16.2.1)) : Option Int).bind fun o19 => (shrI .u64 o19 16).bind fun v21 => (idx s16.1 s16.2.2.2).bind fun v22 => (idx s16.1 s16.2.2.2).bind fun v23 => (shrI .i64 (IntKind.i64.wrap ((IntKind.i64.wrap ((IntKind.i64.wrap v22) - (IntKind.i64.wrap (bitI .and .u64 o19 65535)))) + s16.2.2.1)) 16).bind fun v24 => some (.inl ((List.set s16.1 (Int.toNat s16.2.2.2) (IntKind.u16.wrap (IntKind.i64.wrap ((IntKind.i64.wrap ((IntKind.i64.wrap v22) - (IntKind.i64.wrap (bitI .and .u64 o19 65535)))) + s16.2.2.1)))), v21, v24, (IntKind.i64.wrap (s16.2.2.2 + 1))))) else (some (.inr (s16.1, s16.2.2.1)))
def f_exact_digit_L3 (N : Nat) (x0 : (List Int)) (x1 : (List Int)) (s8 : (Int × Int)) : Option ((Int × Int) ⊕ Int) :=
  (bif ((cmpI .lss s8.2 65536) && (!(cmpI .gtr s8.1 65535))) then (idx x1 (IntKind.i64.wrap ((List.length x1 : Int) - 2))) else some 0).bind fun v9 => (bif ((cmpI .lss s8.2 65536) && (!(cmpI .gtr s8.1 65535))) then (shlI .u64 s8.2 16) else some 0).bind fun v10 => (bif ((cmpI .lss s8.2 65536) && (!(cmpI .gtr s8.1 65535))) then (idx x0 (IntKind.i64.wrap ((List.length x1 : Int) - 2))) else some 0).bind fun v11 => bif ((cmpI .lss s8.2 65536) && ((cmpI .gtr s8.1 65535) || (cmpI .gtr (IntKind.u64.wrap (s8.1 * (IntKind.u64.wrap v9))) (bitI .or .u64 v10 (IntKind.u64.wrap v11))))) then ((idx x1 (IntKind.i64.wrap ((List.length x1 : Int) - 1))).bind fun v12 => some (.inl ((IntKind.u64.wrap (s8.1 - 1)), (IntKind.u64.wrap (s8.2 + (IntKind.u64.wrap v12)))))) else (some (.inr s8.1))
def f_exact_digit (N : Nat) (x0 : (List Int)) (x1 : (List Int)) : Option ((List Int) × Int) :=
  (idx x0 (List.length x1 : Int)).bind fun v1 => (shlI .u64 (IntKind.u64.wrap v1) 16).bind fun v2 => (idx x0 (IntKind.i64.wrap ((List.length x1 : Int) - 1))).bind fun v3 => (idx x1 (IntKind.i64.wrap ((List.length x1 : Int) - 1))).bind fun v4 => (quoI .u64 (bitI .or .u64 v2 (IntKind.u64.wrap v3)) (IntKind.u64.wrap v4)).bind fun v5 => (idx x1 (IntKind.i64.wrap ((List.length x1 : Int) - 1))).bind fun v6 => (remI (bitI .or .u64 v2 (IntKind.u64.wrap v3)) (IntKind.u64.wrap v6)).bind fun v7 => (loopN (f_exact_digit_L3 N x0 x1) N (v5, v7)).bind fun o14 => (loopN (f_exact_digit_L2 N x1 o14) N (x0, 0, 0, 0)).bind fun o26 => bif (cmpI .lss o26.2 0) then ((loopN (f_exact_digit_L1 N x1) N (o26.1, 0, 0)).bind fun o34 => (idx o34.1 (List.length x1 : Int)).bind fun v36 => (idx o34.1 (List.length x1 : Int)).bind fun v37 => some ((List.set o34.1 (Int.toNat (List.length x1 : Int)) (IntKind.u16.wrap (v36 + (IntKind.u16.wrap o34.2)))), (IntKind.u16.wrap (IntKind.u64.wrap (o14 - 1))))) else (some (o26.1, (IntKind.u16.wrap o14)))
def f_exact_divide_L1 (N : Nat) (v7 : Int) (v10 : (List Int)) (o17 : ((List Int) × (List Int))) (s20 : ((List Int) × Int)) : Option (((List Int) × Int) ⊕ (List Int)) :=
  bif (cmpI .lss s20.2 (List.length v10 : Int)) then ((idx o17.2 s20.2).bind fun v21 => (idx o17.2 (IntKind.i64.wrap (s20.2 + 1))).bind fun v22 => (shlI .u32 (IntKind.u32.wrap v22) 16).bind fun v23 => (shrI .u32 (bitI .or .u32 (IntKind.u32.wrap v21) v23) v7).bind fun v24 => (idx s20.1 s20.2).bind fun v25 => some (.inl ((List.set s20.1 (Int.toNat s20.2) (IntKind.u16.wrap v24)), (IntKind.i64.wrap (s20.2 + 1))))) else (some (.inr s20.1))
def f_exact_divide_L2 (N : Nat) (v10 : (List Int)) (s12 : ((List Int) × (List Int) × Int)) : Option (((List Int) × (List Int) × Int) ⊕ ((List Int) × (List Int))) :=
  bif (cmpI .geq s12.2.2 0) then ((slc s12.2.1 s12.2.2 (IntKind.i64.wrap ((IntKind.i64.wrap (s12.2.2 + (List.length v10 : Int))) + 1))).bind fun v13 => (f_exact_digit N (List.take (Int.toNat (IntKind.i64.wrap ((IntKind.i64.wrap (s12.2.2 + (List.length v10 : Int))) + 1)) - Int.toNat s12.2.2) (List.drop (Int.toNat s12.2.2) s12.2.1)) v10).bind fun v14 => (idx s12.1 s12.2.2).bind fun v15 => some (.inl ((List.set s12.1 (Int.toNat s12.2.2) v14.2), (List.take (Int.toNat s12.2.2) s12.2.1 ++ v14.1 ++ List.drop ((Int.toNat s12.2.2) + (Int.toNat (IntKind.i64.wrap ((IntKind.i64.wrap (s12.2.2 + (List.length v10 : Int))) + 1)) - Int.toNat s12.2.2)) s12.2.1), (IntKind.i64.wrap (s12.2.2 - 1))))) else (some (.inr (s12.1, s12.2.1)))
def f_exact_divide (N : Nat) (x0 : (List Int)) (x1 : (List Int)) : Option ((List Int) × (List Int)) :=
  (f_exact_compare N x0 x1).bind fun v1 => bif (cmpI .lss v1 0) then ((f_slices_Cloneluint16_uint16 N x0).bind fun v2 => some ([], v2)) else (bif (cmpI .eql (List.length x1 : Int) 1) then ((idx x1 0).bind fun v3 => (f_exact_short N x0 v3).bind fun v4 => (f_exact_trim N [v4.2]).bind fun v5 => some (v4.1, v5)) else ((idx x1 (IntKind.i64.wrap ((List.length x1 : Int) - 1))).bind fun v6 => (f_bits_LeadingZeros16 N v6).bind fun v7 => (f_exact_shifted N x0 v7).bind fun v8 => (f_exact_shifted N x1 v7).bind fun v9 => (slc v9 0 (List.length x1 : Int)).bind fun v10 => (mk 0 (IntKind.i64.wrap ((List.length v8 : Int) - (List.length v10 : Int))) (IntKind.i64.wrap ((List.length v8 : Int) - (List.length v10 : Int)))).bind fun v11 => (loopN (f_exact_divide_L2 N v10) N (v11, v8, (IntKind.i64.wrap ((IntKind.i64.wrap ((List.length v8 : Int) - (List.length v10 : Int))) - 1)))).bind fun o17 => (mk 0 (List.length v10 : Int) (List.length v10 : Int)).bind fun v19 => (loopN (f_exact_divide_L1 N v7 v10 o17) N (v19, 0)).bind fun o27 => (f_exact_trim N o17.1).bind fun v29 => (f_exact_trim N o27).bind fun v30 => some (v29, v30)))
def f_exact_common_L1 (N : Nat) (s4 : (Int × Int)) : Option ((Int × Int) ⊕ Int) :=
  bif (cmpI .gtr s4.2 0) then ((remI s4.1 s4.2).bind fun v5 => some (.inl (s4.2, v5))) else (some (.inr s4.1))
def f_exact_common_L2 (N : Nat) (s1 : ((List Int) × (List Int))) : Option (((List Int) × (List Int)) ⊕ ((List Int) ⊕ (List Int))) :=
  bif (cmpI .gtr (List.length s1.2 : Int) 0) then ((f_exact_word N s1.1).bind fun v2 => (f_exact_word N s1.2).bind fun v3 => bif (v2.2 && v3.2) then ((loopN (f_exact_common_L1 N) N (v2.1, v3.1)).bind fun o7 => (f_exact_natural N o7).bind fun v9 => some (.inr (Sum.inr v9))) else ((f_exact_divide N s1.1 s1.2).bind fun v11 => some (.inl (s1.2, v11.2)))) else (some (.inr (Sum.inl s1.1)))
def f_exact_common (N : Nat) (x0 : (List Int)) (x1 : (List Int)) : Option ((List Int)) :=
  (loopN (f_exact_common_L2 N) N (x0, x1)).bind fun o14 => Sum.elim (fun l16 => some l16) (fun r17 => some r17) o14
def f_exact_signed (N : Nat) (x0 : Bool) (x1 : (List Int)) : Option (GInt) :=
  (f_exact_trim N x1).bind fun v1 => bif (cmpI .eql (List.length v1 : Int) 0) then (some (⟨false, []⟩ : GInt)) else ((f_slices_Cloneluint16_uint16 N v1).bind fun v2 => some (⟨x0, v2⟩ : GInt))
def f_exact_fraction (N : Nat) (x0 : GInt) (x1 : GInt) : Option (GRat) :=
  (f_exact_trim N x0.Limbs).bind fun v1 => (f_exact_trim N x1.Limbs).bind fun v2 => (f_exact_common N v1 v2).bind fun v3 => (bif (!(cmpI .neq (List.length v3 : Int) 1)) then (idx v3 0) else some 0).bind fun v4 => bif ((cmpI .neq (List.length v3 : Int) 1) || (cmpI .neq v4 1)) then ((f_exact_divide N v1 v3).bind fun v5 => (f_exact_divide N v2 v3).bind fun v6 => (f_exact_signed N (!(x0.Neg == x1.Neg)) v5.1).bind fun v7 => (f_exact_signed N false v6.1).bind fun v8 => some (⟨v7, v8⟩ : GRat)) else ((f_exact_signed N (!(x0.Neg == x1.Neg)) v1).bind fun v9 => (f_exact_signed N false v2).bind fun v10 => some (⟨v9, v10⟩ : GRat))
def f_exact_negative (N : Nat) (x0 : GRat) : Option (GRat) :=
  (f_exact_opposite N x0.Num).bind fun v1 => (f_exact_below N x0).bind fun v2 => (f_exact_fraction N v1 v2).bind fun v3 => some v3
def f_exact_isZero (N : Nat) (x0 : GRat) : Option (Bool) :=
  (f_exact_sign N x0.Num).bind fun v1 => some (cmpI .eql v1 0)
def f_exact_lowest (N : Nat) (x0 : GRat) : Option (GRat) :=
  (f_exact_below N x0).bind fun v1 => (f_exact_fraction N x0.Num v1).bind fun v2 => some v2
def f_exact_times_L1 (N : Nat) (x1 : (List Int)) (s2 : ((List Int) × Int)) (v3 : Int) (s4 : ((List Int) × Int × Int)) : Option (((List Int) × Int × Int) ⊕ ((List Int) × Int)) :=
  bif (cmpI .lss s4.2.2 (List.length x1 : Int)) then ((idx x1 s4.2.2).bind fun v5 => (idx s4.1 (IntKind.i64.wrap (s2.2 + s4.2.2))).bind fun v6 => (idx s4.1 (IntKind.i64.wrap (s2.2 + s4.2.2))).bind fun v7 => (shrI .u32 (IntKind.u32.wrap (s4.2.1 + (IntKind.u32.wrap ((IntKind.u32.wrap ((IntKind.u32.wrap v3) * (IntKind.u32.wrap v5))) + (IntKind.u32.wrap v6))))) 16).bind fun v8 => some (.inl ((List.set s4.1 (Int.toNat (IntKind.i64.wrap (s2.2 + s4.2.2))) (IntKind.u16.wrap (IntKind.u32.wrap (s4.2.1 + (IntKind.u32.wrap ((IntKind.u32.wrap ((IntKind.u32.wrap v3) * (IntKind.u32.wrap v5))) + (IntKind.u32.wrap v6))))))), v8, (IntKind.i64.wrap (s4.2.2 + 1))))) else (some (.inr (s4.1, s4.2.1)))
def f_exact_times_L2 (N : Nat) (x0 : (List Int)) (x1 : (List Int)) (s2 : ((List Int) × Int)) : Option (((List Int) × Int) ⊕ (List Int)) :=
  bif (cmpI .lss s2.2 (List.length x0 : Int)) then ((idx x0 s2.2).bind fun v3 => (loopN (f_exact_times_L1 N x1 s2 v3) N (s2.1, 0, 0)).bind fun o10 => (idx o10.1 (IntKind.i64.wrap (s2.2 + (List.length x1 : Int)))).bind fun v12 => some (.inl ((List.set o10.1 (Int.toNat (IntKind.i64.wrap (s2.2 + (List.length x1 : Int)))) (IntKind.u16.wrap o10.2)), (IntKind.i64.wrap (s2.2 + 1))))) else (some (.inr s2.1))
def f_exact_times (N : Nat) (x0 : (List Int)) (x1 : (List Int)) : Option ((List Int)) :=
  (mk 0 (IntKind.i64.wrap ((List.length x0 : Int) + (List.length x1 : Int))) (IntKind.i64.wrap ((List.length x0 : Int) + (List.length x1 : Int)))).bind fun v1 => (loopN (f_exact_times_L2 N x0 x1) N (v1, 0)).bind fun o15 => (f_exact_trim N o15).bind fun v17 => some v17
def f_exact_Mul (N : Nat) (x0 : GInt) (x1 : GInt) : Option (GInt) :=
  (f_exact_trim N x0.Limbs).bind fun v1 => (f_exact_trim N x1.Limbs).bind fun v2 => (f_exact_times N v1 v2).bind fun v3 => (f_exact_signed N (!(x0.Neg == x1.Neg)) v3).bind fun v4 => some v4
def f_exact_plus_L1 (N : Nat) (o2 : ((List Int) × (List Int))) (s5 : ((List Int) × Int × Int)) : Option (((List Int) × Int × Int) ⊕ ((List Int) × Int)) :=
  bif (cmpI .lss s5.2.2 (List.length o2.1 : Int)) then ((idx o2.1 s5.2.2).bind fun v6 => ((bif (cmpI .lss s5.2.2 (List.length o2.2 : Int)) then ((idx o2.2 s5.2.2).bind fun v7 => some (IntKind.u32.wrap ((IntKind.u32.wrap (s5.2.1 + (IntKind.u32.wrap v6))) + (IntKind.u32.wrap v7)))) else (some (IntKind.u32.wrap (s5.2.1 + (IntKind.u32.wrap v6))))) : Option Int).bind fun o9 => (app s5.1 [(IntKind.u16.wrap o9)]).bind fun v11 => (shrI .u32 o9 16).bind fun v12 => some (.inl (v11, v12, (IntKind.i64.wrap (s5.2.2 + 1))))) else (some (.inr (s5.1, s5.2.1)))
def f_exact_plus (N : Nat) (x0 : (List Int)) (x1 : (List Int)) : Option ((List Int)) :=
  ((bif (cmpI .lss (List.length x0 : Int) (List.length x1 : Int)) then (some (x1, x0)) else (some (x0, x1))) : Option ((List Int) × (List Int))).bind fun o2 => (mk 0 0 (IntKind.i64.wrap ((List.length o2.1 : Int) + 1))).bind fun v4 => (loopN (f_exact_plus_L1 N o2) N (v4, 0, 0)).bind fun o14 => (app o14.1 [(IntKind.u16.wrap o14.2)]).bind fun v16 => (f_exact_trim N v16).bind fun v17 => some v17
def f_exact_minus_L1 (N : Nat) (x0 : (List Int)) (x1 : (List Int)) (s2 : ((List Int) × Int × Int)) : Option (((List Int) × Int × Int) ⊕ (List Int)) :=
  bif (cmpI .lss s2.2.2 (List.length x0 : Int)) then ((idx x0 s2.2.2).bind fun v3 => ((bif (cmpI .lss s2.2.2 (List.length x1 : Int)) then ((idx x1 s2.2.2).bind fun v4 => some (IntKind.u32.wrap (s2.2.1 + (IntKind.u32.wrap v4)))) else (some s2.2.1)) : Option Int).bind fun o6 => bif (cmpI .lss (IntKind.u32.wrap v3) o6) then ((shlI .u32 1 16).bind fun v8 => (idx s2.1 s2.2.2).bind fun v9 => some (.inl ((List.set s2.1 (Int.toNat s2.2.2) (IntKind.u16.wrap (IntKind.u32.wrap ((IntKind.u32.wrap ((IntKind.u32.wrap v3) + v8)) - o6)))), 1, (IntKind.i64.wrap (s2.2.2 + 1))))) else ((shlI .u32 0 16).bind fun v10 => (idx s2.1 s2.2.2).bind fun v11 => some (.inl ((List.set s2.1 (Int.toNat s2.2.2) (IntKind.u16.wrap (IntKind.u32.wrap ((IntKind.u32.wrap ((IntKind.u32.wrap v3) + v10)) - o6)))), 0, (IntKind.i64.wrap (s2.2.2 + 1)))))) else (some (.inr s2.1))
def f_exact_minus (N : Nat) (x0 : (List Int)) (x1 : (List Int)) : Option ((List Int)) :=
  (mk 0 (List.length x0 : Int) (List.length x0 : Int)).bind fun v1 => (loopN (f_exact_minus_L1 N x0 x1) N (v1, 0, 0)).bind fun o14 => (f_exact_trim N o14).bind fun v16 => some v16
def f_exact_Add (N : Nat) (x0 : GInt) (x1 : GInt) : Option (GInt) :=
  (f_exact_trim N x0.Limbs).bind fun v1 => (f_exact_trim N x1.Limbs).bind fun v2 => bif (x0.Neg == x1.Neg) then ((f_exact_plus N v1 v2).bind fun v3 => (f_exact_signed N x0.Neg v3).bind fun v4 => some v4) else ((f_exact_compare N v1 v2).bind fun v5 => bif (cmpI .geq v5 0) then ((f_exact_minus N v1 v2).bind fun v6 => (f_exact_signed N x0.Neg v6).bind fun v7 => some v7) else ((f_exact_minus N v2 v1).bind fun v8 => (f_exact_signed N x1.Neg v8).bind fun v9 => some v9))
def f_exact_AddRat (N : Nat) (x0 : GRat) (x1 : GRat) : Option (GRat) :=
  (f_exact_isZero N x0).bind fun v1 => bif v1 then ((f_exact_lowest N x1).bind fun v2 => some v2) else ((f_exact_isZero N x1).bind fun v3 => bif v3 then ((f_exact_lowest N x0).bind fun v4 => some v4) else ((f_exact_below N x0).bind fun v5 => (f_exact_below N x1).bind fun v6 => (f_exact_Mul N x0.Num v6).bind fun v7 => (f_exact_Mul N x1.Num v5).bind fun v8 => (f_exact_Add N v7 v8).bind fun v9 => (f_exact_Mul N v5 v6).bind fun v10 => (f_exact_fraction N v9 v10).bind fun v11 => some v11))
def f_exact_SubRat (N : Nat) (x0 : GRat) (x1 : GRat) : Option (GRat) :=
  (f_exact_negative N x1).bind fun v1 => (f_exact_AddRat N x0 v1).bind fun v2 => some v2
def f_exact_signOf (N : Nat) (x0 : GRat) : Option (Int) :=
  (f_exact_sign N x0.Num).bind fun v1 => (f_exact_below N x0).bind fun v2 => (f_exact_sign N v2).bind fun v3 => some (IntKind.i64.wrap (v1 * v3))
def f_exact_CmpRat (N : Nat) (x0 : GRat) (x1 : GRat) : Option (Int) :=
  (f_exact_SubRat N x0 x1).bind fun v1 => (f_exact_signOf N v1).bind fun v2 => some v2
def f_exact_MulRat (N : Nat) (x0 : GRat) (x1 : GRat) : Option (GRat) :=
  (f_exact_Mul N x0.Num x1.Num).bind fun v1 => (f_exact_below N x0).bind fun v2 => (f_exact_below N x1).bind fun v3 => (f_exact_Mul N v2 v3).bind fun v4 => (f_exact_fraction N v1 v4).bind fun v5 => some v5
def f_exact_Of (N : Nat) (x0 : Int) : Option (GInt) :=
  bif (cmpI .lss x0 0) then ((f_exact_natural N (IntKind.u64.wrap (0 - (IntKind.u64.wrap x0)))).bind fun v1 => (f_exact_signed N true v1).bind fun v2 => some v2) else ((f_exact_natural N (IntKind.u64.wrap x0)).bind fun v3 => (f_exact_signed N false v3).bind fun v4 => some v4)
def f_exact_Ratio (N : Nat) (x0 : Int) (x1 : Int) : Option (GRat × Int) :=
  bif (cmpI .eql x1 0) then (some ((⟨(⟨false, []⟩ : GInt), (⟨false, []⟩ : GInt)⟩ : GRat), 9)) else ((f_exact_Of N x0).bind fun v1 => (f_exact_Of N x1).bind fun v2 => (f_exact_fraction N v1 v2).bind fun v3 => some (v3, 0))
def f_ref01_trim_L1 (N : Nat) (x0 : (List Int)) (s1 : Int) : Option (Int ⊕ Int) :=
  (bif (cmpI .gtr s1 0) then (idx x0 (IntKind.i64.wrap (s1 - 1))) else some 0).bind fun v2 => bif ((cmpI .gtr s1 0) && (cmpI .eql v2 0)) then (some (.inl (IntKind.i64.wrap (s1 - 1)))) else (some (.inr s1))
def f_ref01_trim (N : Nat) (x0 : (List Int)) : Option ((List Int)) :=
  (loopN (f_ref01_trim_L1 N x0) N (List.length x0 : Int)).bind fun o4 => (slc x0 0 o4).bind fun v6 => (app ([] : (List Int)) v6).bind fun v7 => some v7
def f_ref01_read_L1 (N : Nat) (x0 : (List Int)) (s1 : ((List Int) × Int)) : Option (((List Int) × Int) ⊕ (List Int)) :=
  bif (cmpI .lss s1.2 (List.length x0 : Int)) then ((idx x0 s1.2).bind fun v2 => (app s1.1 [(IntKind.i64.wrap v2)]).bind fun v3 => some (.inl (v3, (IntKind.i64.wrap (s1.2 + 1))))) else (some (.inr s1.1))
def f_ref01_read (N : Nat) (x0 : (List Int)) : Option ((List Int)) :=
  (loopN (f_ref01_read_L1 N x0) N ([], 0)).bind fun o5 => (f_ref01_trim N o5).bind fun v7 => some v7
def f_ref01_made_L1 (N : Nat) (x1 : (List Int)) (s1 : (GInt × Int)) : Option ((GInt × Int) ⊕ GInt) :=
  bif (cmpI .lss s1.2 (List.length x1 : Int)) then ((idx x1 s1.2).bind fun v2 => (app s1.1.Limbs [(IntKind.u16.wrap v2)]).bind fun v3 => some (.inl (({ s1.1 with Limbs := v3 } : GInt), (IntKind.i64.wrap (s1.2 + 1))))) else (some (.inr s1.1))
def f_ref01_made (N : Nat) (x0 : Bool) (x1 : (List Int)) : Option (GInt) :=
  (loopN (f_ref01_made_L1 N x1) N ((⟨(x0 && (cmpI .gtr (List.length x1 : Int) 0)), []⟩ : GInt), 0)).bind fun o5 => some o5
def f_ref01_Of_L1 (N : Nat) (s4 : ((List Int) × Int)) : Option (((List Int) × Int) ⊕ (List Int)) :=
  bif (cmpI .gtr s4.2 0) then ((remI s4.2 65536).bind fun v5 => (app s4.1 [(IntKind.i64.wrap v5)]).bind fun v6 => (quoI .u64 s4.2 65536).bind fun v7 => some (.inl (v6, v7))) else (some (.inr s4.1))
def f_ref01_Of (N : Nat) (x0 : Int) : Option (GInt) :=
  ((bif (cmpI .lss x0 0) then (some (IntKind.u64.wrap (0 - (IntKind.u64.wrap x0)))) else (some (IntKind.u64.wrap x0))) : Option Int).bind fun o2 => (loopN (f_ref01_Of_L1 N) N ([], o2)).bind fun o9 => (f_ref01_made N (cmpI .lss x0 0) o9).bind fun v11 => some v11
def f_ref01_digit (N : Nat) (x0 : (List Int)) (x1 : Int) : Option (Int) :=
  bif (cmpI .lss x1 (List.length x0 : Int)) then ((idx x0 x1).bind fun v1 => some v1) else (some 0)
def f_ref01_times_L1 (N : Nat) (x0 : (List Int)) (x1 : (List Int)) (s2 : ((List Int) × Int)) (s3 : ((List Int) × Int × Int)) : Option (((List Int) × Int × Int) ⊕ (List Int)) :=
  bif ((cmpI .lss s3.2.2 (List.length x1 : Int)) || (cmpI .gtr s3.2.1 0)) then ((idx s3.1 (IntKind.i64.wrap (s2.2 + s3.2.2))).bind fun v4 => (idx x0 s2.2).bind fun v5 => (f_ref01_digit N x1 s3.2.2).bind fun v6 => (remI (IntKind.i64.wrap ((IntKind.i64.wrap (v4 + (IntKind.i64.wrap (v5 * v6)))) + s3.2.1)) 65536).bind fun v7 => (idx s3.1 (IntKind.i64.wrap (s2.2 + s3.2.2))).bind fun v8 => (quoI .i64 (IntKind.i64.wrap ((IntKind.i64.wrap (v4 + (IntKind.i64.wrap (v5 * v6)))) + s3.2.1)) 65536).bind fun v9 => some (.inl ((List.set s3.1 (Int.toNat (IntKind.i64.wrap (s2.2 + s3.2.2))) v7), v9, (IntKind.i64.wrap (s3.2.2 + 1))))) else (some (.inr s3.1))
def f_ref01_times_L2 (N : Nat) (x0 : (List Int)) (x1 : (List Int)) (s2 : ((List Int) × Int)) : Option (((List Int) × Int) ⊕ (List Int)) :=
  bif (cmpI .lss s2.2 (List.length x0 : Int)) then ((loopN (f_ref01_times_L1 N x0 x1 s2) N (s2.1, 0, 0)).bind fun o11 => some (.inl (o11, (IntKind.i64.wrap (s2.2 + 1))))) else (some (.inr s2.1))
def f_ref01_times (N : Nat) (x0 : (List Int)) (x1 : (List Int)) : Option ((List Int)) :=
  (mk 0 (IntKind.i64.wrap ((IntKind.i64.wrap ((List.length x0 : Int) + (List.length x1 : Int))) + 1)) (IntKind.i64.wrap ((IntKind.i64.wrap ((List.length x0 : Int) + (List.length x1 : Int))) + 1))).bind fun v1 => (loopN (f_ref01_times_L2 N x0 x1) N (v1, 0)).bind fun o15 => (f_ref01_trim N o15).bind fun v17 => some v17
def f_ref01_compare_L1 (N : Nat) (x0 : (List Int)) (x1 : (List Int)) (s1 : Int) : Option (Int ⊕ (Unit ⊕ Int)) :=
  bif (cmpI .geq s1 0) then ((idx x0 s1).bind fun v2 => (idx x1 s1).bind fun v3 => bif (cmpI .neq v2 v3) then ((idx x0 s1).bind fun v4 => (idx x1 s1).bind fun v5 => some (.inr (Sum.inr (IntKind.i64.wrap (v4 - v5))))) else (some (.inl (IntKind.i64.wrap (s1 - 1))))) else (some (.inr (Sum.inl ())))
def f_ref01_compare (N : Nat) (x0 : (List Int)) (x1 : (List Int)) : Option (Int) :=
  bif (cmpI .neq (List.length x0 : Int) (List.length x1 : Int)) then (some (IntKind.i64.wrap ((List.length x0 : Int) - (List.length x1 : Int)))) else ((loopN (f_ref01_compare_L1 N x0 x1) N (IntKind.i64.wrap ((List.length x0 : Int) - 1))).bind fun o8 => Sum.elim (fun l10 => some 0) (fun r11 => some r11) o8)
def f_ref01_minus_L1 (N : Nat) (x0 : (List Int)) (x1 : (List Int)) (s1 : ((List Int) × Int × Int)) : Option (((List Int) × Int × Int) ⊕ (List Int)) :=
  bif (cmpI .lss s1.2.2 (List.length x0 : Int)) then ((idx x0 s1.2.2).bind fun v2 => (f_ref01_digit N x1 s1.2.2).bind fun v3 => bif (cmpI .lss (IntKind.i64.wrap ((IntKind.i64.wrap (v2 - v3)) - s1.2.1)) 0) then ((app s1.1 [(IntKind.i64.wrap ((IntKind.i64.wrap ((IntKind.i64.wrap (v2 - v3)) - s1.2.1)) + 65536))]).bind fun v4 => some (.inl (v4, 1, (IntKind.i64.wrap (s1.2.2 + 1))))) else ((app s1.1 [(IntKind.i64.wrap ((IntKind.i64.wrap (v2 - v3)) - s1.2.1))]).bind fun v5 => some (.inl (v5, 0, (IntKind.i64.wrap (s1.2.2 + 1)))))) else (some (.inr s1.1))
def f_ref01_minus (N : Nat) (x0 : (List Int)) (x1 : (List Int)) : Option ((List Int)) :=
  (loopN (f_ref01_minus_L1 N x0 x1) N ([], 0, 0)).bind fun o8 => (f_ref01_trim N o8).bind fun v10 => some v10
def f_ref01_over_L1 (N : Nat) (x1 : (List Int)) (v20 : (List Int)) (s21 : (Int × Int)) : Option ((Int × Int) ⊕ Int) :=
  bif (cmpI .lss s21.1 s21.2) then ((quoI .i64 (IntKind.i64.wrap ((IntKind.i64.wrap (s21.1 + s21.2)) + 1)) 2).bind fun v22 => (f_ref01_times N x1 [v22]).bind fun v23 => (f_ref01_compare N v23 v20).bind fun v24 => bif (cmpI .leq v24 0) then (some (.inl (v22, s21.2))) else (some (.inl (s21.1, (IntKind.i64.wrap (v22 - 1)))))) else (some (.inr s21.1))
def f_ref01_over_L2 (N : Nat) (x0 : (List Int)) (x1 : (List Int)) (s17 : ((List Int) × (List Int) × Int)) : Option (((List Int) × (List Int) × Int) ⊕ ((List Int) × (List Int))) :=
  bif (cmpI .geq s17.2.2 0) then ((idx x0 s17.2.2).bind fun v18 => (app [v18] s17.1).bind fun v19 => (f_ref01_trim N v19).bind fun v20 => (loopN (f_ref01_over_L1 N x1 v20) N (0, 65535)).bind fun o27 => (idx s17.2.1 s17.2.2).bind fun v29 => bif (cmpI .gtr o27 0) then ((f_ref01_times N x1 [o27]).bind fun v30 => (f_ref01_minus N v20 v30).bind fun v31 => some (.inl (v31, (List.set s17.2.1 (Int.toNat s17.2.2) o27), (IntKind.i64.wrap (s17.2.2 - 1))))) else (some (.inl (v20, (List.set s17.2.1 (Int.toNat s17.2.2) o27), (IntKind.i64.wrap (s17.2.2 - 1)))))) else (some (.inr (s17.1, s17.2.1)))
def f_ref01_over (N : Nat) (x0 : (List Int)) (x1 : (List Int)) : Option ((List Int) × (List Int)) :=
  (mk 0 (List.length x0 : Int) (List.length x0 : Int)).bind fun v1 => (loopN (f_ref01_over_L2 N x0 x1) N ([], v1, (IntKind.i64.wrap ((List.length x0 : Int) - 1)))).bind fun o35 => (f_ref01_trim N o35.2).bind fun v37 => some (v37, o35.1)
def f_ref01_gcd_L1 (N : Nat) (s1 : ((List Int) × (List Int))) : Option (((List Int) × (List Int)) ⊕ (List Int)) :=
  bif (cmpI .gtr (List.length s1.2 : Int) 0) then ((f_ref01_over N s1.1 s1.2).bind fun v2 => some (.inl (s1.2, v2.2))) else (some (.inr s1.1))
def f_ref01_gcd (N : Nat) (x0 : (List Int)) (x1 : (List Int)) : Option ((List Int)) :=
  (loopN (f_ref01_gcd_L1 N) N (x0, x1)).bind fun o4 => some o4
def f_ref01_Over (N : Nat) (x0 : GInt) (x1 : GInt) : Option (GRat) :=
  (f_ref01_read N x0.Limbs).bind fun v1 => (f_ref01_read N x1.Limbs).bind fun v2 => bif (cmpI .eql (List.length v2 : Int) 0) then ((f_ref01_made N x0.Neg v1).bind fun v3 => (f_ref01_Of N 1).bind fun v4 => some (⟨v3, v4⟩ : GRat)) else ((f_ref01_gcd N v1 v2).bind fun v5 => (f_ref01_over N v1 v5).bind fun v6 => (f_ref01_over N v2 v5).bind fun v7 => (f_ref01_made N (!(x0.Neg == x1.Neg)) v6.1).bind fun v8 => (f_ref01_made N false v7.1).bind fun v9 => some (⟨v8, v9⟩ : GRat))
def f_ref01_NormRat (N : Nat) (x0 : GRat) : Option (GRat) :=
  (f_ref01_Over N x0.Num x0.Den).bind fun v1 => some v1
def f_ref01_Neg (N : Nat) (x0 : GInt) : Option (GInt) :=
  (f_ref01_read N x0.Limbs).bind fun v1 => (f_ref01_made N (!x0.Neg) v1).bind fun v2 => some v2
def f_ref01_NegRat (N : Nat) (x0 : GRat) : Option (GRat) :=
  (f_ref01_NormRat N x0).bind fun v1 => (f_ref01_Neg N v1.Num).bind fun v2 => some (⟨v2, v1.Den⟩ : GRat)
def f_ref01_Mul (N : Nat) (x0 : GInt) (x1 : GInt) : Option (GInt) :=
  (f_ref01_read N x0.Limbs).bind fun v1 => (f_ref01_read N x1.Limbs).bind fun v2 => (f_ref01_times N v1 v2).bind fun v3 => (f_ref01_made N (!(x0.Neg == x1.Neg)) v3).bind fun v4 => some v4
def f_ref01_plus_L1 (N : Nat) (x0 : (List Int)) (x1 : (List Int)) (s1 : ((List Int) × Int × Int)) : Option (((List Int) × Int × Int) ⊕ (List Int)) :=
  bif (((cmpI .lss s1.2.2 (List.length x0 : Int)) || (cmpI .lss s1.2.2 (List.length x1 : Int))) || (cmpI .gtr s1.2.1 0)) then ((f_ref01_digit N x0 s1.2.2).bind fun v2 => (f_ref01_digit N x1 s1.2.2).bind fun v3 => (remI (IntKind.i64.wrap ((IntKind.i64.wrap (v2 + v3)) + s1.2.1)) 65536).bind fun v4 => (app s1.1 [v4]).bind fun v5 => (quoI .i64 (IntKind.i64.wrap ((IntKind.i64.wrap (v2 + v3)) + s1.2.1)) 65536).bind fun v6 => some (.inl (v5, v6, (IntKind.i64.wrap (s1.2.2 + 1))))) else (some (.inr s1.1))
def f_ref01_plus (N : Nat) (x0 : (List Int)) (x1 : (List Int)) : Option ((List Int)) :=
  (loopN (f_ref01_plus_L1 N x0 x1) N ([], 0, 0)).bind fun o8 => (f_ref01_trim N o8).bind fun v10 => some v10
def f_ref01_Add (N : Nat) (x0 : GInt) (x1 : GInt) : Option (GInt) :=
  (f_ref01_read N x0.Limbs).bind fun v1 => (f_ref01_read N x1.Limbs).bind fun v2 => bif (x0.Neg == x1.Neg) then ((f_ref01_plus N v1 v2).bind fun v3 => (f_ref01_made N x0.Neg v3).bind fun v4 => some v4) else ((f_ref01_compare N v1 v2).bind fun v5 => bif (cmpI .geq v5 0) then ((f_ref01_minus N v1 v2).bind fun v6 => (f_ref01_made N x0.Neg v6).bind fun v7 => some v7) else ((f_ref01_minus N v2 v1).bind fun v8 => (f_ref01_made N x1.Neg v8).bind fun v9 => some v9))
def f_ref01_AddRat (N : Nat) (x0 : GRat) (x1 : GRat) : Option (GRat) :=
  (f_ref01_NormRat N x0).bind fun v1 => (f_ref01_NormRat N x1).bind fun v2 => (f_ref01_Mul N v1.Num v2.Den).bind fun v3 => (f_ref01_Mul N v2.Num v1.Den).bind fun v4 => (f_ref01_Add N v3 v4).bind fun v5 => (f_ref01_Mul N v1.Den v2.Den).bind fun v6 => (f_ref01_Over N v5 v6).bind fun v7 => some v7
def f_ref01_SubRat (N : Nat) (x0 : GRat) (x1 : GRat) : Option (GRat) :=
  (f_ref01_NegRat N x1).bind fun v1 => (f_ref01_AddRat N x0 v1).bind fun v2 => some v2
def f_ref01_Sign (N : Nat) (x0 : GInt) : Option (Int) :=
  (f_ref01_read N x0.Limbs).bind fun v1 => bif (cmpI .eql (List.length v1 : Int) 0) then (some 0) else (bif x0.Neg then (some (-1)) else (some 1))
def f_ref01_SignRat (N : Nat) (x0 : GRat) : Option (Int) :=
  (f_ref01_NormRat N x0).bind fun v1 => (f_ref01_Sign N v1.Num).bind fun v2 => some v2
def f_ref01_CmpRat (N : Nat) (x0 : GRat) (x1 : GRat) : Option (Int) :=
  (f_ref01_SubRat N x0 x1).bind fun v1 => (f_ref01_SignRat N v1).bind fun v2 => some v2
def f_ref01_QuoRat (N : Nat) (x0 : GRat) (x1 : GRat) : Option (GRat) :=
  (f_ref01_NormRat N x0).bind fun v1 => (f_ref01_NormRat N x1).bind fun v2 => (f_ref01_Mul N v1.Num v2.Den).bind fun v3 => (f_ref01_Mul N v1.Den v2.Num).bind fun v4 => (f_ref01_Over N v3 v4).bind fun v5 => some v5
def f_ref01_MulRat (N : Nat) (x0 : GRat) (x1 : GRat) : Option (GRat) :=
  (f_ref01_NormRat N x0).bind fun v1 => (f_ref01_NormRat N x1).bind fun v2 => (f_ref01_Mul N v1.Num v2.Num).bind fun v3 => (f_ref01_Mul N v1.Den v2.Den).bind fun v4 => (f_ref01_Over N v3 v4).bind fun v5 => some v5
def f_survey_inside_1 (N : Nat) (x0 : Int) (c0 : Int) (c1 : Int) : Option (Bool) :=
  some ((cmpI .lss x0 c0) || (cmpI .gtr x0 c1))
def f_slices_IndexFunclint_int_L1 (N : Nat) (x0 : (List Int)) (x1 : (Int → Option Bool)) (s1 : Int) : Option (Int ⊕ (Unit ⊕ Int)) :=
  bif (cmpI .lss s1 (List.length x0 : Int)) then ((idx x0 s1).bind fun v2 => (x1 v2).bind fun v3 => bif v3 then (some (.inr (Sum.inr s1))) else (some (.inl (IntKind.i64.wrap (s1 + 1))))) else (some (.inr (Sum.inl ())))
def f_slices_IndexFunclint_int (N : Nat) (x0 : (List Int)) (x1 : (Int → Option Bool)) : Option (Int) :=
  (loopN (f_slices_IndexFunclint_int_L1 N x0 x1) N 0).bind fun o6 => Sum.elim (fun l8 => some (-1)) (fun r9 => some r9) o6
def f_slices_ContainsFunclint_int (N : Nat) (x0 : (List Int)) (x1 : (Int → Option Bool)) : Option (Bool) :=
  (f_slices_IndexFunclint_int N x0 x1).bind fun v1 => some (cmpI .geq v1 0)
def f_survey_inside (N : Nat) (x0 : Int) (x1 : Int) (x2 : (List Int)) : Option (Bool) :=
  (f_slices_ContainsFunclint_int N x2 (fun y0 => f_survey_inside_1 N y0 x0 x1)).bind fun v1 => some (!v1)
def f_survey_CheckTrial_L1 (N : Nat) (x0 : (List GRun)) (s1 : Int) : Option (Int ⊕ (Unit ⊕ Int)) :=
  bif (cmpI .lss s1 (List.length x0 : Int)) then ((idx x0 s1).bind fun v2 => (f_survey_inside N 0 1000000 [v2.Start]).bind fun v3 => (bif (!(!v3)) then (f_survey_inside N 1 100000 [v2.Seconds, v2.Metres]) else some false).bind fun v4 => bif ((!v3) || (!v4)) then (some (.inr (Sum.inr 2))) else (bif (cmpI .eql s1 0) then (some (.inl (IntKind.i64.wrap (s1 + 1)))) else ((idx x0 (IntKind.i64.wrap (s1 - 1))).bind fun v5 => bif (cmpI .leq v2.Start v5.Start) then (some (.inr (Sum.inr 10))) else (bif ((cmpI .gtr (IntKind.i64.wrap (v5.Start + v5.Seconds)) v2.Start) || (v5.Back == v2.Back)) then (some (.inr (Sum.inr 17))) else (some (.inl (IntKind.i64.wrap (s1 + 1)))))))) else (some (.inr (Sum.inl ())))
def f_survey_CheckTrial (N : Nat) (x0 : (List GRun)) : Option (Int) :=
  bif (cmpI .lss (List.length x0 : Int) 2) then (some 11) else (bif (cmpI .gtr (List.length x0 : Int) 12) then (some 8) else ((loopN (f_survey_CheckTrial_L1 N x0) N 0).bind fun o11 => Sum.elim (fun l13 => some 0) (fun r14 => some r14) o11))
def f_survey_ratio (N : Nat) (x0 : Int) (x1 : Int) : Option (GRat) :=
  (f_exact_Ratio N x0 x1).bind fun v1 => some v1.1
def f_survey_Speeds_L1 (N : Nat) (x0 : (List GRun)) (s2 : ((List GRat) × Int)) : Option (((List GRat) × Int) ⊕ (List GRat)) :=
  bif (cmpI .lss s2.2 (List.length x0 : Int)) then ((idx x0 s2.2).bind fun v3 => (f_survey_ratio N v3.Metres v3.Seconds).bind fun v4 => (app s2.1 [v4]).bind fun v5 => some (.inl (v5, (IntKind.i64.wrap (s2.2 + 1))))) else (some (.inr s2.1))
def f_survey_Speeds (N : Nat) (x0 : (List GRun)) : Option ((List GRat) × Int) :=
  (f_survey_CheckTrial N x0).bind fun v1 => bif (cmpI .neq v1 0) then (some ([], v1)) else ((loopN (f_survey_Speeds_L1 N x0) N ([], 0)).bind fun o7 => some (o7, 0))
def f_survey_MeanOfMeans_L1 (N : Nat) (v2 : GRat) (s3 : (List GRat)) (s4 : ((List GRat) × Int)) : Option (((List GRat) × Int) ⊕ (List GRat)) :=
  bif (cmpI .lss s4.2 (IntKind.i64.wrap ((List.length s3 : Int) - 1))) then ((idx s4.1 s4.2).bind fun v5 => (idx s4.1 (IntKind.i64.wrap (s4.2 + 1))).bind fun v6 => (f_exact_AddRat N v5 v6).bind fun v7 => (f_exact_MulRat N v2 v7).bind fun v8 => (idx s4.1 s4.2).bind fun v9 => some (.inl ((List.set s4.1 (Int.toNat s4.2) v8), (IntKind.i64.wrap (s4.2 + 1))))) else (some (.inr s4.1))
def f_survey_MeanOfMeans_L2 (N : Nat) (v2 : GRat) (s3 : (List GRat)) : Option ((List GRat) ⊕ (List GRat)) :=
  bif (cmpI .gtr (List.length s3 : Int) 1) then ((loopN (f_survey_MeanOfMeans_L1 N v2 s3) N (s3, 0)).bind fun o11 => (bif decide (0 ≤ (IntKind.i64.wrap ((List.length o11 : Int) - 1))) && decide ((IntKind.i64.wrap ((List.length o11 : Int) - 1)) ≤ (List.length o11 : Int)) then some (List.take (Int.toNat (IntKind.i64.wrap ((List.length o11 : Int) - 1))) o11) else none).bind fun v13 => some (.inl v13)) else (some (.inr s3))
def f_survey_MeanOfMeans (N : Nat) (x0 : (List GRun)) : Option (GRat × Int) :=
  (f_survey_Speeds N x0).bind fun v1 => bif (cmpI .neq v1.2 0) then (some ((⟨(⟨false, []⟩ : GInt), (⟨false, []⟩ : GInt)⟩ : GRat), v1.2)) else ((f_survey_ratio N 1 2).bind fun v2 => (loopN (f_survey_MeanOfMeans_L2 N v2) N v1.1).bind fun o16 => (idx o16 0).bind fun v18 => some (v18, 0))
def f_survey_letter (N : Nat) (x0 : Int) : Option (Bool) :=
  some (((cmpI .geq x0 97) && (cmpI .leq x0 122)) || ((cmpI .geq x0 65) && (cmpI .leq x0 90)))
def f_survey_name_L1 (N : Nat) (x0 : Str) (s3 : Int) : Option (Int ⊕ (Unit ⊕ Bool)) :=
  bif (cmpI .lss s3 (List.length x0 : Int)) then ((idx x0 s3).bind fun v4 => (f_survey_letter N ((UInt8.toNat v4 : Nat) : Int)).bind fun v5 => bif (((!v5) && (cmpI .neq ((UInt8.toNat v4 : Nat) : Int) 45)) && ((cmpI .lss ((UInt8.toNat v4 : Nat) : Int) 48) || (cmpI .gtr ((UInt8.toNat v4 : Nat) : Int) 57))) then (some (.inr (Sum.inr false))) else (some (.inl (IntKind.i64.wrap (s3 + 1))))) else (some (.inr (Sum.inl ())))
def f_survey_name (N : Nat) (x0 : Str) : Option (Bool) :=
  (bif (!((cmpI .lss (List.length x0 : Int) 1) || (cmpI .gtr (List.length x0 : Int) 12))) then (idx x0 0) else some 0).bind fun v1 => (bif (!((cmpI .lss (List.length x0 : Int) 1) || (cmpI .gtr (List.length x0 : Int) 12))) then (f_survey_letter N ((UInt8.toNat v1 : Nat) : Int)) else some false).bind fun v2 => bif (((cmpI .lss (List.length x0 : Int) 1) || (cmpI .gtr (List.length x0 : Int) 12)) || (!v2)) then (some false) else ((loopN (f_survey_name_L1 N x0) N 0).bind fun o8 => Sum.elim (fun l10 => some true) (fun r11 => some r11) o8)
def f_survey_CheckPanel (N : Nat) (x0 : GPanel) : Option (Int) :=
  (f_survey_name N x0.Name).bind fun v1 => bif (!v1) then (some 4) else ((bif (!((cmpI .lss x0.Rows 1) || (cmpI .lss x0.Cols 1))) then (f_survey_inside N 100 20000 [x0.Built]) else some false).bind fun v2 => bif (((cmpI .lss x0.Rows 1) || (cmpI .lss x0.Cols 1)) || (!v2)) then (some 2) else (bif (((cmpI .gtr x0.Rows 400) || (cmpI .gtr x0.Cols 400)) || (cmpI .gtr (IntKind.i64.wrap (x0.Rows * x0.Cols)) 400)) then (some 8) else (bif (cmpI .neq (List.length x0.Readings : Int) (IntKind.i64.wrap (x0.Rows * x0.Cols))) then (some 11) else ((f_survey_inside N 0 20000 x0.Readings).bind fun v3 => bif (!v3) then (some 2) else (some 0)))))
def f_survey_checkRule (N : Nat) (x0 : GRule) : Option (Int) :=
  bif (((cmpI .lss x0.Substantial 0) || (cmpI .gtr x0.Substantial x0.Renew)) || (cmpI .gtr x0.Renew 1000)) then (some 2) else (some 0)
def f_survey_worn (N : Nat) (x0 : GPanel) (x1 : Int) : Option (Int) :=
  bif (cmpI .eql x1 0) then (some 0) else (some (max (IntKind.i64.wrap (x0.Built - x1)) 0))
def f_survey_grade (N : Nat) (x0 : GPanel) (x1 : GRule) (x2 : Int) : Option (Int) :=
  (f_survey_worn N x0 x2).bind fun v1 => bif (cmpI .eql x2 0) then (some 0) else (bif (cmpI .geq (IntKind.i64.wrap (1000 * v1)) (IntKind.i64.wrap (x1.Renew * x0.Built))) then (some 3) else (bif (cmpI .geq (IntKind.i64.wrap (1000 * v1)) (IntKind.i64.wrap (x1.Substantial * x0.Built))) then (some 2) else (some 1)))
def f_survey_Grade_L1 (N : Nat) (x0 : GPanel) (x1 : GRule) (s3 : ((List Int) × Int)) : Option (((List Int) × Int) ⊕ (List Int)) :=
  bif (cmpI .lss s3.2 (List.length x0.Readings : Int)) then ((idx x0.Readings s3.2).bind fun v4 => (f_survey_grade N x0 x1 v4).bind fun v5 => (app s3.1 [v5]).bind fun v6 => some (.inl (v6, (IntKind.i64.wrap (s3.2 + 1))))) else (some (.inr s3.1))
def f_survey_Grade (N : Nat) (x0 : GPanel) (x1 : GRule) : Option ((List Int) × Int) :=
  (f_survey_CheckPanel N x0).bind fun v1 => bif (cmpI .neq v1 0) then (some ([], v1)) else ((f_survey_checkRule N x1).bind fun v2 => bif (cmpI .neq v2 0) then (some ([], v2)) else ((loopN (f_survey_Grade_L1 N x0 x1) N ([], 0)).bind fun o8 => some (o8, 0)))
def f_base_limbs_L1 (N : Nat) (s1 : (Int × (List Int))) : Option ((Int × (List Int)) ⊕ (List Int)) :=
  bif (cmpI .gtr s1.1 0) then ((app s1.2 [(IntKind.u16.wrap (bitI .and .u64 s1.1 65535))]).bind fun v2 => (shrI .u64 s1.1 16).bind fun v3 => some (.inl (v3, v2))) else (some (.inr s1.2))
def f_base_limbs (N : Nat) (x0 : Int) : Option ((List Int)) :=
  (loopN (f_base_limbs_L1 N) N (x0, [])).bind fun o5 => some o5
def f_base_Z (N : Nat) (x0 : Int) : Option (GInt) :=
  bif (cmpI .lss x0 0) then ((f_base_limbs N (IntKind.u64.wrap ((IntKind.u64.wrap (IntKind.i64.wrap (0 - (IntKind.i64.wrap (x0 + 1))))) + 1))).bind fun v1 => some (⟨true, v1⟩ : GInt)) else ((f_base_limbs N (IntKind.u64.wrap x0)).bind fun v2 => some (⟨false, v2⟩ : GInt))
def f_base_W (N : Nat) (x0 : Int) : Option (GRat) :=
  (f_base_Z N x0).bind fun v1 => (f_base_Z N 1).bind fun v2 => some (⟨v1, v2⟩ : GRat)
def f_base_SameInt_L1 (N : Nat) (x0 : GInt) (x1 : GInt) (s1 : Int) : Option (Int ⊕ (Unit ⊕ Bool)) :=
  bif (cmpI .lss s1 (List.length x0.Limbs : Int)) then ((idx x0.Limbs s1).bind fun v2 => (idx x1.Limbs s1).bind fun v3 => bif (cmpI .neq v2 v3) then (some (.inr (Sum.inr false))) else (some (.inl (IntKind.i64.wrap (s1 + 1))))) else (some (.inr (Sum.inl ())))
def f_base_SameInt (N : Nat) (x0 : GInt) (x1 : GInt) : Option (Bool) :=
  bif ((!(x0.Neg == x1.Neg)) || (cmpI .neq (List.length x0.Limbs : Int) (List.length x1.Limbs : Int))) then (some false) else ((loopN (f_base_SameInt_L1 N x0 x1) N 0).bind fun o6 => Sum.elim (fun l8 => some true) (fun r9 => some r9) o6)
def f_base_SameRat (N : Nat) (x0 : GRat) (x1 : GRat) : Option (Bool) :=
  (f_base_SameInt N x0.Num x1.Num).bind fun v1 => (bif v1 then (f_base_SameInt N x0.Den x1.Den) else some false).bind fun v2 => some (v1 && v2)
def f_base_Ints_L1 (N : Nat) (x0 : (List Int)) (x1 : (List Int)) (s1 : Int) : Option (Int ⊕ (Unit ⊕ Bool)) :=
  bif (cmpI .lss s1 (List.length x0 : Int)) then ((idx x0 s1).bind fun v2 => (idx x1 s1).bind fun v3 => bif (cmpI .neq v2 v3) then (some (.inr (Sum.inr false))) else (some (.inl (IntKind.i64.wrap (s1 + 1))))) else (some (.inr (Sum.inl ())))
def f_base_Ints (N : Nat) (x0 : (List Int)) (x1 : (List Int)) : Option (Bool) :=
  bif (cmpI .neq (List.length x0 : Int) (List.length x1 : Int)) then (some false) else ((loopN (f_base_Ints_L1 N x0 x1) N 0).bind fun o6 => Sum.elim (fun l8 => some true) (fun r9 => some r9) o6)
def f_law09_awake (N : Nat) : Option (Bool) :=
  (f_survey_MeanOfMeans N [(⟨0, 100, 1000, false⟩ : GRun), (⟨200, 125, 1000, true⟩ : GRun), (⟨400, 100, 1000, false⟩ : GRun)]).bind fun v1 => (f_survey_Grade N (⟨([80] : Str), 1, 4, 1000, [950, 800, 0, 700]⟩ : GPanel) (⟨150, 250⟩ : GRule)).bind fun v2 => (bif (cmpI .eql v1.2 0) then (f_base_W N 9) else some (⟨(⟨false, []⟩ : GInt), (⟨false, []⟩ : GInt)⟩ : GRat)).bind fun v3 => (bif (cmpI .eql v1.2 0) then (f_base_SameRat N v1.1 v3) else some false).bind fun v4 => (bif (((cmpI .eql v1.2 0) && v4) && (cmpI .eql v2.2 0)) then (f_base_Ints N v2.1 [1, 2, 0, 3]) else some false).bind fun v5 => some ((((cmpI .eql v1.2 0) && v4) && (cmpI .eql v2.2 0)) && v5)
def f_law09_brief_L1 (N : Nat) (x1 : (List GPainting)) (s9 : Int) : Option (Int ⊕ (Unit ⊕ Bool)) :=
  bif (cmpI .lss s9 (List.length x1 : Int)) then ((idx x1 s9).bind fun v10 => (bif (!(cmpI .gtr (List.length v10.Coat : Int) 50)) then (idx x1 s9) else some (⟨[], 0, []⟩ : GPainting)).bind fun v11 => bif ((cmpI .gtr (List.length v10.Coat : Int) 50) || (cmpI .gtr (List.length v11.Readings : Int) 110)) then (some (.inr (Sum.inr false))) else (some (.inl (IntKind.i64.wrap (s9 + 1))))) else (some (.inr (Sum.inl ())))
def f_law09_brief_L2 (N : Nat) (x0 : (List GCoat)) (s1 : Int) : Option (Int ⊕ (Unit ⊕ Bool)) :=
  bif (cmpI .lss s1 (List.length x0 : Int)) then ((idx x0 s1).bind fun v2 => bif (cmpI .gtr (List.length v2.Name : Int) 50) then (some (.inr (Sum.inr false))) else (some (.inl (IntKind.i64.wrap (s1 + 1))))) else (some (.inr (Sum.inl ())))
def f_law09_brief (N : Nat) (x0 : (List GCoat)) (x1 : (List GPainting)) : Option (Bool) :=
  bif ((cmpI .gtr (List.length x0 : Int) 12) || (cmpI .gtr (List.length x1 : Int) 12)) then (some false) else ((loopN (f_law09_brief_L2 N x0) N 0).bind fun o5 => Sum.elim (fun l7 => (loopN (f_law09_brief_L1 N x1) N 0).bind fun o14 => Sum.elim (fun l16 => some true) (fun r17 => some r17) o14) (fun r8 => some r8) o5)
def f_survey_checkCoat (N : Nat) (x0 : GCoat) : Option (Int) :=
  bif ((((((cmpI .lss x0.Nominal 1) || (cmpI .gtr x0.Nominal x0.Most)) || (cmpI .gtr x0.Most 10000)) || (cmpI .lss x0.Soonest 0)) || (cmpI .gtr x0.Soonest x0.Latest)) || (cmpI .gtr x0.Latest 1000000)) then (some 2) else (some 0)
def f_slices_Minlint_int_L1 (N : Nat) (x0 : (List Int)) (s5 : (Int × Int)) : Option ((Int × Int) ⊕ Int) :=
  bif (cmpI .lss s5.2 (List.length x0 : Int)) then ((idx x0 s5.2).bind fun v6 => some (.inl ((min s5.1 v6), (IntKind.i64.wrap (s5.2 + 1))))) else (some (.inr s5.1))
def f_slices_Minlint_int (N : Nat) (x0 : (List Int)) : Option (Int) :=
  ((bif (cmpI .lss (List.length x0 : Int) 1) then (none) else (some ())) : Option Unit).bind fun o2 => (idx x0 0).bind fun v4 => (loopN (f_slices_Minlint_int_L1 N x0) N (v4, 1)).bind fun o8 => some o8
def f_slices_Maxlint_int_L1 (N : Nat) (x0 : (List Int)) (s5 : (Int × Int)) : Option ((Int × Int) ⊕ Int) :=
  bif (cmpI .lss s5.2 (List.length x0 : Int)) then ((idx x0 s5.2).bind fun v6 => some (.inl ((max s5.1 v6), (IntKind.i64.wrap (s5.2 + 1))))) else (some (.inr s5.1))
def f_slices_Maxlint_int (N : Nat) (x0 : (List Int)) : Option (Int) :=
  ((bif (cmpI .lss (List.length x0 : Int) 1) then (none) else (some ())) : Option Unit).bind fun o2 => (idx x0 0).bind fun v4 => (loopN (f_slices_Maxlint_int_L1 N x0) N (v4, 1)).bind fun o8 => some o8
def f_survey_Thickness_L1 (N : Nat) (x0 : GCoat) (x1 : (List Int)) (s4 : (Int × Int)) : Option ((Int × Int) ⊕ Int) :=
  bif (cmpI .lss s4.2 (List.length x1 : Int)) then ((idx x1 s4.2).bind fun v5 => bif (cmpI .geq v5 x0.Nominal) then (some (.inl ((IntKind.i64.wrap (s4.1 + 1)), (IntKind.i64.wrap (s4.2 + 1))))) else (some (.inl (s4.1, (IntKind.i64.wrap (s4.2 + 1)))))) else (some (.inr s4.1))
def f_survey_Thickness (N : Nat) (x0 : GCoat) (x1 : (List Int)) : Option (Int × Int) :=
  (f_survey_name N x0.Name).bind fun v1 => bif (!v1) then (some (0, 4)) else ((f_survey_checkCoat N x0).bind fun v2 => bif (cmpI .neq v2 0) then (some (0, v2)) else (bif (cmpI .eql (List.length x1 : Int) 0) then (some (0, 11)) else (bif (cmpI .gtr (List.length x1 : Int) 100) then (some (0, 8)) else ((f_survey_inside N 0 20000 x1).bind fun v3 => bif (!v3) then (some (0, 2)) else ((loopN (f_survey_Thickness_L1 N x0 x1) N (0, 0)).bind fun o8 => (f_slices_Minlint_int N x1).bind fun v10 => (f_slices_Maxlint_int N x1).bind fun v11 => bif (cmpI .gtr v11 x0.Most) then (some (1, 0)) else (bif ((cmpI .lss (IntKind.i64.wrap (10 * o8)) (IntKind.i64.wrap (9 * (List.length x1 : Int)))) || (cmpI .lss (IntKind.i64.wrap (10 * v10)) (IntKind.i64.wrap (9 * x0.Nominal)))) then (some (2, 0)) else (some (0, 0))))))))
def f_base_IsName_L1 (N : Nat) (x0 : Str) (s1 : Int) : Option (Int ⊕ (Unit ⊕ Bool)) :=
  bif (cmpI .lss s1 (List.length x0 : Int)) then ((idx x0 s1).bind fun v2 => bif ((!(((cmpI .geq ((UInt8.toNat v2 : Nat) : Int) 97) && (cmpI .leq ((UInt8.toNat v2 : Nat) : Int) 122)) || ((cmpI .geq ((UInt8.toNat v2 : Nat) : Int) 65) && (cmpI .leq ((UInt8.toNat v2 : Nat) : Int) 90)))) && ((cmpI .eql s1 0) || ((cmpI .neq ((UInt8.toNat v2 : Nat) : Int) 45) && ((cmpI .lss ((UInt8.toNat v2 : Nat) : Int) 48) || (cmpI .gtr ((UInt8.toNat v2 : Nat) : Int) 57))))) then (some (.inr (Sum.inr false))) else (some (.inl (IntKind.i64.wrap (s1 + 1))))) else (some (.inr (Sum.inl ())))
def f_base_IsName (N : Nat) (x0 : Str) : Option (Bool) :=
  bif ((cmpI .lss (List.length x0 : Int) 1) || (cmpI .gtr (List.length x0 : Int) 12)) then (some false) else ((loopN (f_base_IsName_L1 N x0) N 0).bind fun o5 => Sum.elim (fun l7 => some true) (fun r8 => some r8) o5)
def f_ref09_coatRange (N : Nat) (x0 : GCoat) : Option (Int) :=
  bif ((((((cmpI .lss x0.Nominal 1) || (cmpI .gtr x0.Nominal x0.Most)) || (cmpI .gtr x0.Most 10000)) || (cmpI .lss x0.Soonest 0)) || (cmpI .gtr x0.Soonest x0.Latest)) || (cmpI .gtr x0.Latest 1000000)) then (some 2) else (some 0)
def f_ref09_CheckCoat (N : Nat) (x0 : GCoat) : Option (Int) :=
  (f_base_IsName N x0.Name).bind fun v1 => bif (!v1) then (some 4) else ((f_ref09_coatRange N x0).bind fun v2 => some v2)
def f_ref09_within (N : Nat) (x0 : Int) (x1 : Int) (x2 : Int) : Option (Bool) :=
  some ((cmpI .geq x0 x1) && (cmpI .leq x0 x2))
def f_ref09_Thickness_L1 (N : Nat) (x0 : GCoat) (x1 : (List Int)) (s2 : (Int × Bool × Bool × Int)) : Option ((Int × Bool × Bool × Int) ⊕ ((Int × Bool × Bool) ⊕ (Int × Int))) :=
  bif (cmpI .lss s2.2.2.2 (List.length x1 : Int)) then ((idx x1 s2.2.2.2).bind fun v3 => (f_ref09_within N v3 0 20000).bind fun v4 => bif (!v4) then (some (.inr (Sum.inr (0, 2)))) else (((bif (cmpI .geq v3 x0.Nominal) then (some (IntKind.i64.wrap (s2.1 + 1))) else (some s2.1)) : Option Int).bind fun o6 => some (.inl (o6, (s2.2.1 || (cmpI .lss (IntKind.i64.wrap (10 * v3)) (IntKind.i64.wrap (9 * x0.Nominal)))), (s2.2.2.1 || (cmpI .gtr v3 x0.Most)), (IntKind.i64.wrap (s2.2.2.2 + 1)))))) else (some (.inr (Sum.inl (s2.1, s2.2.1, s2.2.2.1))))
def f_ref09_Thickness (N : Nat) (x0 : GCoat) (x1 : (List Int)) : Option (Int × Int) :=
  (f_ref09_CheckCoat N x0).bind fun v1 => bif (cmpI .neq v1 0) then (some (0, v1)) else (bif (cmpI .eql (List.length x1 : Int) 0) then (some (0, 11)) else (bif (cmpI .gtr (List.length x1 : Int) 100) then (some (0, 8)) else ((loopN (f_ref09_Thickness_L1 N x0 x1) N (0, false, false, 0)).bind fun o10 => Sum.elim (fun l12 => bif l12.2.2 then (some (1, 0)) else (bif (l12.2.1 || (cmpI .lss (IntKind.i64.wrap (10 * l12.1)) (IntKind.i64.wrap (9 * (List.length x1 : Int))))) then (some (2, 0)) else (some (0, 0)))) (fun r13 => some (r13.1, r13.2)) o10)))
def f_survey_CheckScheme_L1 (N : Nat) (x0 : (List GCoat)) (s1 : ((List (Str × Bool)) × Int)) : Option (((List (Str × Bool)) × Int) ⊕ (Unit ⊕ Int)) :=
  bif (cmpI .lss s1.2 (List.length x0 : Int)) then ((idx x0 s1.2).bind fun v2 => (f_survey_name N v2.Name).bind fun v3 => bif (!v3) then (some (.inr (Sum.inr 4))) else (bif (mget false s1.1 v2.Name) then (some (.inr (Sum.inr 5))) else ((f_survey_checkCoat N v2).bind fun v4 => bif (cmpI .neq v4 0) then (some (.inr (Sum.inr v4))) else (some (.inl ((mset s1.1 v2.Name true), (IntKind.i64.wrap (s1.2 + 1)))))))) else (some (.inr (Sum.inl ())))
def f_survey_CheckScheme (N : Nat) (x0 : (List GCoat)) : Option (Int) :=
  bif (cmpI .eql (List.length x0 : Int) 0) then (some 11) else (bif (cmpI .gtr (List.length x0 : Int) 8) then (some 8) else ((loopN (f_survey_CheckScheme_L1 N x0) N (([] : (List (Str × Bool))), 0)).bind fun o9 => Sum.elim (fun l11 => some 0) (fun r12 => some r12) o9))
def f_ref09_CheckScheme_L1 (N : Nat) (x0 : (List GCoat)) (s1 : Int) (s4 : Int) : Option (Int ⊕ (Unit ⊕ Int)) :=
  bif (cmpI .lss s4 s1) then ((idx x0 s4).bind fun v5 => (idx x0 s1).bind fun v6 => bif (cmpS .eql v5.Name v6.Name) then (some (.inr (Sum.inr 5))) else (some (.inl (IntKind.i64.wrap (s4 + 1))))) else (some (.inr (Sum.inl ())))
def f_ref09_CheckScheme_L2 (N : Nat) (x0 : (List GCoat)) (s1 : Int) : Option (Int ⊕ (Unit ⊕ Int)) :=
  bif (cmpI .lss s1 (List.length x0 : Int)) then ((idx x0 s1).bind fun v2 => (f_base_IsName N v2.Name).bind fun v3 => bif (!v3) then (some (.inr (Sum.inr 4))) else ((loopN (f_ref09_CheckScheme_L1 N x0 s1) N 0).bind fun o9 => Sum.elim (fun l11 => (idx x0 s1).bind fun v13 => (f_ref09_coatRange N v13).bind fun v14 => bif (cmpI .neq v14 0) then (some (.inr (Sum.inr v14))) else (some (.inl (IntKind.i64.wrap (s1 + 1))))) (fun r12 => some (.inr (Sum.inr r12))) o9)) else (some (.inr (Sum.inl ())))
def f_ref09_CheckScheme (N : Nat) (x0 : (List GCoat)) : Option (Int) :=
  bif (cmpI .eql (List.length x0 : Int) 0) then (some 11) else (bif (cmpI .gtr (List.length x0 : Int) 8) then (some 8) else ((loopN (f_ref09_CheckScheme_L2 N x0) N 0).bind fun o19 => Sum.elim (fun l21 => some 0) (fun r22 => some r22) o19))
def f_law09_SurveyCoats (N : Nat) (x0 : (List GCoat)) (x1 : GCoat) (x2 : (List Int)) : Option (Bool) :=
  (f_law09_awake N).bind fun v1 => bif (!v1) then (some false) else ((appB 48 [x1] x0).bind fun v2 => (f_law09_brief N v2 ([] : (List GPainting))).bind fun v3 => bif ((!v3) || (cmpI .gtr (List.length x2 : Int) 110)) then (some true) else ((f_survey_Thickness N x1 x2).bind fun v4 => (f_ref09_Thickness N x1 x2).bind fun v5 => (f_survey_CheckScheme N x0).bind fun v6 => (f_ref09_CheckScheme N x0).bind fun v7 => some (((cmpI .eql v6 v7) && (cmpI .eql v4.1 v5.1)) && (cmpI .eql v4.2 v5.2))))
end Go.KB
